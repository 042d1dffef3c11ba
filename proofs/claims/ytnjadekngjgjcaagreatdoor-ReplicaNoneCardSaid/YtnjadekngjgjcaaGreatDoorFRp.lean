/- The functions of the program as predicates over worlds, written by a program of mine (PkPrint); each is held against the code by the kernel. -/
import Derived.Test.YtnjadekngjgjcaaGreatDoorN
namespace Go.Proofs.YtnjadekngjgjcaaGreatDoor
open Go Go.Pk
/-- penstock/replica.Open -/
def S_replica_Open (R : Value → World → Prop) (x0 : Option Addr) (x1 : ByteArray) (x2 : Int) (x3 : Int) (w : World) : Prop :=
 JoinP (T := Unit) (fun J0 =>
 ifB (Option.isNone x0)
 (R (.tuple #[(.pointer none), (.int .i64 5)]) w)
 (ifB (decide (x2 < 0))
 (R (.tuple #[(.pointer none), (.int .i64 1)]) w)
 (ifB (decide (x2 ≥ 6))
 (R (.tuple #[(.pointer none), (.int .i64 1)]) w)
 (ifB (decide (x3 < 0))
 (R (.tuple #[(.pointer none), (.int .i64 1)]) w)
 (ifB (decide (x3 ≥ 5))
 (R (.tuple #[(.pointer none), (.int .i64 1)]) w)
 (J0 (some ()) w))))))
 fun t1 w2 =>
 CallP P F_seglog_Open [(.pointer x0), (.string x1)] w2 fun (v3 : Value) w4 =>
 TupP [.ptr, (.int .i64)] v3 fun (t5 : Option Addr × Int × Unit) =>
 ifB (t5.snd.fst != 0)
 (R (.tuple #[(.pointer none), (.int .i64 t5.snd.fst)]) w4)
 (RunK .map P (Instr.makeMap T_map_int_p_replica_peer none) w4 fun (m6 : Option Nat) w7 =>
 RunK .addr P (Instr.box T_replica_Replica (.agg #[(.int .i64 x2), (.int .i64 x3), (.pointer t5.fst), (.pointer none), (.pointer none), (.int .i64 (-1)), (.bool false), (.int .i64 0), (.int .i64 0), (.slice none 0 0), (.slice none 0 0), (.map m6)])) w7 fun (a8 : Addr) w9 =>
 CallP P F_replica_Replica_learn [(.pointer (some a8))] w9 fun (v10 : Value) w11 =>
 TupP [] v10 fun (t12 : Unit) =>
 CallP P F_seglog_Log_Start [(.pointer t5.fst)] w11 fun (v13 : Value) w14 =>
 TyP (.int .i64) v13 fun (n15 : Int) =>
 StoreP P T_int (.pointer (some (Go.Addr.add a8 8))) (.int .i64 n15) w14 fun w16 =>
 R (.tuple #[(.pointer (some a8)), (.int .i64 0)]) w16)
theorem c_replica_Open {R : Value → World → Prop} {x0 : Option Addr} {x1 : ByteArray} {x2 : Int} {x3 : Int} {w : World} (h : S_replica_Open R x0 x1 x2 x3 w) : CallP P F_replica_Open [.pointer x0, .string x1, .int .i64 x2, .int .i64 x3] w R := mkC (an := ⟨[(5, [])], [], []⟩) Tryz.func11 (by kernel_rfl) h


/-- (*penstock/replica.Replica).Lead -/
def S_replica_Replica_Lead (R : Value → World → Prop) (x0 : Option Addr) (x1 : Int) (x2 : Sl) (w : World) : Prop :=
 ifB (Option.isNone x0)
 (R (.int .i64 5) w)
 (nilCk x0 fun (a0 : Addr) =>
 RunQ (.int .i64) P (Instr.loadAt T_int (.pointer (some (a0.add 5)))) w fun (n1 : Int) =>
 ifB (decide (x1 ≤ n1))
 (R (.int .i64 12) w)
 (nilCk x0 fun (a2 : Addr) =>
 RunQ .ptr P (Instr.loadAt T_p_seglog_Log (.pointer (some (a2.add 2)))) w fun (p3 : Option Addr) =>
 CallP P F_seglog_Log_End [(.pointer p3)] w fun (v4 : Value) w5 =>
 TyP (.int .i64) v4 fun (n6 : Int) =>
 nilCk x0 fun (a7 : Addr) =>
 StoreP P T_int (.pointer (some (a7.add 5))) (.int .i64 x1) w5 fun w8 =>
 nilCk x0 fun (a9 : Addr) =>
 StoreP P T_bool (.pointer (some (a9.add 6))) (.bool true) w8 fun w10 =>
 nilCk x0 fun (a11 : Addr) =>
 StoreP P T_int (.pointer (some (a11.add 7))) (.int .i64 n6) w10 fun w12 =>
 CallP P F_slices_Clone_int_int [x2.v] w12 fun (v13 : Value) w14 =>
 TyP .sl v13 fun (s15 : Sl) =>
 nilCk x0 fun (a16 : Addr) =>
 StoreP P T_sl_int (.pointer (some (a16.add 9))) s15.v w14 fun w17 =>
 nilCk x0 fun (a18 : Addr) =>
 StoreP P T_sl_int (.pointer (some (a18.add 10))) (.slice none 0 0) w17 fun w19 =>
 RunK .map P (Instr.makeMap T_map_int_p_replica_peer none) w19 fun (m20 : Option Nat) w21 =>
 nilCk x0 fun (a22 : Addr) =>
 StoreP P T_map_int_p_replica_peer (.pointer (some (a22.add 11))) (.map m20) w21 fun w23 =>
 CallP P F_replica_Replica_rise [(.pointer x0)] w23 fun (v24 : Value) w25 =>
 TupP [] v24 fun (t26 : Unit) =>
 R (.int .i64 0) w25))
theorem c_replica_Replica_Lead {R : Value → World → Prop} {x0 : Option Addr} {x1 : Int} {x2 : Sl} {w : World} (h : S_replica_Replica_Lead R x0 x1 x2 w) : CallP P F_replica_Replica_Lead [.pointer x0, .int .i64 x1, x2.v] w R := mkC (an := ⟨[], [], []⟩) Tryz.func15 (by kernel_rfl) h


/-- (*penstock/replica.Replica).Produce -/
def S_replica_Replica_Produce (R : Value → World → Prop) (x0 : Option Addr) (x1 : Value) (w : World) : Prop :=
 RunK .addr P (Instr.box T_api_Batch x1) w fun (a0 : Addr) w1 =>
 ifB (Option.isNone x0)
 (R (.tuple #[(.int .i64 0), (.int .i64 5)]) w1)
 (nilCk x0 fun (a2 : Addr) =>
 RunQ .bool P (Instr.loadAt T_bool (.pointer (some (a2.add 6)))) w1 fun (b3 : Bool) =>
 ifB (!b3)
 (R (.tuple #[(.int .i64 0), (.int .i64 12)]) w1)
 (StoreP P T_int (.pointer (some (Go.Addr.add a0 0))) (.int .i64 0) w1 fun w4 =>
 StoreP P T_int (.pointer (some (Go.Addr.add a0 1))) (.int .i64 0) w4 fun w5 =>
 ∃ S6 : World → Prop, (S6 w5.drew) ∧
 nilCk x0 fun (a7 : Addr) =>
 HRun S6 .ptr P (Instr.loadAt T_p_prod_Table (.pointer (some (a7.add 3)))) fun (p8 : Option Addr) =>
 HRun S6 .val P (Instr.loadAt T_api_Batch (.pointer (some a0))) fun (v9 : Value) =>
 CallP P F_prod_Table_Check [(.pointer p8), v9] w5.drew fun (v10 : Value) w11 =>
 TupP [(.int .i64), .bool, (.int .i64)] v10 fun (t12 : Int × Bool × Int × Unit) =>
 (S6 w11) ∧
 JoinP (T := Unit) (fun J13 =>
 ifB (t12.snd.snd.fst != 0)
 (R (.tuple #[(.int .i64 t12.fst), (.int .i64 t12.snd.snd.fst)]) w11)
 (ifB t12.snd.fst
 (R (.tuple #[(.int .i64 t12.fst), (.int .i64 t12.snd.snd.fst)]) w11)
 (J13 (some ()) w11)))
 fun t14 w15 =>
 JoinP (T := Unit) (fun J16 =>
 ∃ S19 : World → Prop, (S19 w15.drew) ∧
 nilCk x0 fun (a20 : Addr) =>
 HRun S19 .ptr P (Instr.loadAt T_p_prod_Table (.pointer (some (a20.add 3)))) fun (p21 : Option Addr) =>
 HRun S19 (.int .u64) P (Instr.loadAt T_uint64 (.pointer (some (Go.Addr.add a0 2)))) fun (n22 : Int) =>
 CallP P F_prod_Table_Known [(.pointer p21), (.int .u64 n22)] w15.drew fun (v23 : Value) w24 =>
 TupP [(.int .i64), (.int .i64), (.int .i64), .bool] v23 fun (t25 : Int × Int × Int × Bool × Unit) =>
 (S19 w24) ∧
 RunQ .bool P (Instr.loadAt T_bool (.pointer (some (Go.Addr.add a0 6)))) w24 fun (b26 : Bool) =>
 ifB b26
 (ifB t25.snd.snd.snd.fst
 (RunQ (.int .i64) P (Instr.loadAt T_int (.pointer (some (Go.Addr.add a0 3)))) w24 fun (n27 : Int) =>
 ifB (decide (t25.fst ≥ n27))
 (ifB (decide (t25.snd.snd.fst < 0))
 (nilCk x0 fun (a28 : Addr) =>
 RunQ .ptr P (Instr.loadAt T_p_seglog_Log (.pointer (some (a28.add 2)))) w24 fun (p29 : Option Addr) =>
 CallP P F_seglog_Log_End [(.pointer p29)] w24 fun (v30 : Value) w31 =>
 TyP (.int .i64) v30 fun (n32 : Int) =>
 R (.tuple #[(.int .i64 (IntKind.i64.wrap (n32 - 1))), (.int .i64 0)]) w31)
 (J16 (some ()) w24))
 (J16 (some ()) w24))
 (J16 (some ()) w24))
 (J16 (some ()) w24))
 fun t17 w18 =>
 RunQ .val P (Instr.loadAt T_api_Batch (.pointer (some a0))) w18 fun (v33 : Value) =>
 CallP P F_replica_Replica_append [(.pointer x0), v33] w18 fun (v34 : Value) w35 =>
 TupP [(.int .i64), (.int .i64)] v34 fun (t36 : Int × Int × Unit) =>
 R (.tuple #[(.int .i64 t36.fst), (.int .i64 t36.snd.fst)]) w35))
theorem c_replica_Replica_Produce {R : Value → World → Prop} {x0 : Option Addr} {x1 : Value} {w : World} (h : S_replica_Replica_Produce R x0 x1 w) : CallP P F_replica_Replica_Produce [.pointer x0, x1] w R := mkC (an := ⟨[(12, []), (9, [])], [], []⟩) Tryz.func17 (by kernel_rfl) h


/-- (*penstock/replica.Replica).Committed -/
def S_replica_Replica_Committed (R : Value → World → Prop) (x0 : Option Addr) (x1 : Int) (x2 : Int) (w : World) : Prop :=
 ifB (Option.isNone x0)
 (R (.tuple #[(.slice none 0 0), (.slice none 0 0), (.int .i64 0)]) w)
 (CallP P F_replica_Replica_stable [(.pointer x0)] w fun (v0 : Value) w1 =>
 TyP (.int .i64) v0 fun (n2 : Int) =>
 nilCk x0 fun (a3 : Addr) =>
 RunQ .ptr P (Instr.loadAt T_p_seglog_Log (.pointer (some (a3.add 2)))) w1 fun (p4 : Option Addr) =>
 CallP P F_seglog_Log_Read [(.pointer p4), (.int .i64 x1), (.int .i64 x2)] w1 fun (v5 : Value) w6 =>
 TyP .sl v5 fun (s7 : Sl) =>
 LoopP (T := Sl × Int × Unit) (some (⟨none, 0, 0⟩, (0, ()))) w6 fun next8 t9 w10 =>
 ifB (decide (t9.snd.fst < (↑s7.len : Int)))
 (RunQ .addr P (Instr.indexAt T_sl_api_Batch s7.v (.int .i64 t9.snd.fst)) w10 fun (a11 : Addr) =>
 RunQ .val P (Instr.loadAt T_api_Batch (.pointer (some a11))) w10 fun (v12 : Value) =>
 RunK .addr P (Instr.alloc T_api_Batch true (.tuple #[])) w10 fun (a13 : Addr) w14 =>
 StoreP P T_api_Batch (.pointer (some a13)) v12 w14 fun w15 =>
 ∃ S16 : World → Prop, (S16 w15.drew) ∧
 HRun S16 (.int .i64) P (Instr.loadAt T_int (.pointer (some (Go.Addr.add a13 0)))) fun (n17 : Int) =>
 HRun S16 .val P (Instr.loadAt T_api_Batch (.pointer (some a13))) fun (v18 : Value) =>
 CallP P F_batch_Size [v18] w15.drew fun (v19 : Value) w20 =>
 TyP (.int .i64) v19 fun (n21 : Int) =>
 (S16 w20) ∧
 ifB (decide (IntKind.i64.wrap (n17 + n21) ≤ n2))
 (RunQ .val P (Instr.loadAt T_api_Batch (.pointer (some a13))) w20 fun (v22 : Value) =>
 RunK .sl P (Instr.buildSlice T_sl_api_Batch 1 #[(0, v22)]) w20 fun (s23 : Sl) w24 =>
 RunK .sl P (Builtin.append_ #[T_sl_api_Batch, T_sl_api_Batch] T_sl_api_Batch #[t9.fst.v, s23.v]) w24 fun (s25 : Sl) w26 =>
 next8 (some (s25, ((IntKind.i64.wrap (t9.snd.fst + 1)), ()))) w26)
 (next8 (some (t9.fst, ((IntKind.i64.wrap (t9.snd.fst + 1)), ()))) w20))
 (ifB ((↑t9.fst.len : Int) == 0)
 (R (.tuple #[(.slice none 0 0), (.slice none 0 0), (.int .i64 n2)]) w10)
 (RunQ .addr P (Instr.indexAt T_sl_api_Batch t9.fst.v (.int .i64 (IntKind.i64.wrap ((↑t9.fst.len : Int) - 1)))) w10 fun (a27 : Addr) =>
 RunQ .val P (Instr.loadAt T_api_Batch (.pointer (some a27))) w10 fun (v28 : Value) =>
 RunK .addr P (Instr.alloc T_api_Batch true (.tuple #[])) w10 fun (a29 : Addr) w30 =>
 StoreP P T_api_Batch (.pointer (some a29)) v28 w30 fun w31 =>
 ∃ S32 : World → Prop, (S32 w31.drew) ∧
 nilCk x0 fun (a33 : Addr) =>
 HRun S32 .ptr P (Instr.loadAt T_p_prod_Table (.pointer (some (a33.add 3)))) fun (p34 : Option Addr) =>
 HRun S32 .addr P (Instr.indexAt T_sl_api_Batch t9.fst.v (.int .i64 0)) fun (a35 : Addr) =>
 HRun S32 (.int .i64) P (Instr.loadAt T_int (.pointer (some (Go.Addr.add a35 0)))) fun (n36 : Int) =>
 HRun S32 (.int .i64) P (Instr.loadAt T_int (.pointer (some (Go.Addr.add a29 0)))) fun (n37 : Int) =>
 HRun S32 .val P (Instr.loadAt T_api_Batch (.pointer (some a29))) fun (v38 : Value) =>
 CallP P F_batch_Size [v38] w31.drew fun (v39 : Value) w40 =>
 TyP (.int .i64) v39 fun (n41 : Int) =>
 (S32 w40) ∧
 CallP P F_prod_Table_Aborts [(.pointer p34), (.int .i64 n36), (.int .i64 (IntKind.i64.wrap (n37 + n41)))] w40 fun (v42 : Value) w43 =>
 TyP .sl v42 fun (s44 : Sl) =>
 (S32 w43) ∧
 R (.tuple #[t9.fst.v, s44.v, (.int .i64 n2)]) w43)))
theorem c_replica_Replica_Committed {R : Value → World → Prop} {x0 : Option Addr} {x1 : Int} {x2 : Int} {w : World} (h : S_replica_Replica_Committed R x0 x1 x2 w) : CallP P F_replica_Replica_Committed [.pointer x0, .int .i64 x1, .int .i64 x2] w R := mkC (an := ⟨[], [(6, [(10, .sl), (26, (.int .i64))])], []⟩) Tryz.func20 (by kernel_rfl) h


/-- (*penstock/replica.Replica).Log -/
def S_replica_Replica_Log (R : Value → World → Prop) (x0 : Option Addr) (w : World) : Prop :=
 ifB (Option.isNone x0)
 (R (.slice none 0 0) w)
 (nilCk x0 fun (a0 : Addr) =>
 RunQ .ptr P (Instr.loadAt T_p_seglog_Log (.pointer (some (a0.add 2)))) w fun (p1 : Option Addr) =>
 CallP P F_seglog_Log_Read [(.pointer p1), (.int .i64 0), (.int .i64 4194304)] w fun (v2 : Value) w3 =>
 TyP .sl v2 fun (s4 : Sl) =>
 R s4.v w3)
theorem c_replica_Replica_Log {R : Value → World → Prop} {x0 : Option Addr} {w : World} (h : S_replica_Replica_Log R x0 w) : CallP P F_replica_Replica_Log [.pointer x0] w R := mkC (an := ⟨[], [], []⟩) Tryz.func25 (by kernel_rfl) h


/-- (*penstock/replica.Replica).Ready -/
def S_replica_Replica_Ready (R : Value → World → Prop) (x0 : Option Addr) (w : World) : Prop :=
 ifB (!Option.isNone x0)
 (nilCk x0 fun (a0 : Addr) =>
 RunQ .bool P (Instr.loadAt T_bool (.pointer (some (a0.add 6)))) w.drew fun (b1 : Bool) =>
 ifB b1
 (nilCk x0 fun (a2 : Addr) =>
 RunQ (.int .i64) P (Instr.loadAt T_int (.pointer (some (a2.add 8)))) w.drew fun (n3 : Int) =>
 nilCk x0 fun (a4 : Addr) =>
 RunQ (.int .i64) P (Instr.loadAt T_int (.pointer (some (a4.add 7)))) w.drew fun (n5 : Int) =>
 R (.bool (decide (n3 ≥ n5))) w.drew)
 (R (.bool false) w.drew))
 (R (.bool false) w.drew)
theorem c_replica_Replica_Ready {R : Value → World → Prop} {x0 : Option Addr} {w : World} (h : S_replica_Replica_Ready R x0 w) : CallP P F_replica_Replica_Ready [.pointer x0] w R := mkC (an := ⟨[], [], []⟩) Tryz.func26 (by kernel_rfl) h


/-- (*penstock/replica.Replica).Need -/
def S_replica_Replica_Need (R : Value → World → Prop) (x0 : Option Addr) (w : World) : Prop :=
 RunK .addr P (Instr.alloc T_api_FetchReq true (.tuple #[])) w fun (a0 : Addr) w1 =>
 JoinP (T := Unit) (fun J2 =>
 ifB (Option.isNone x0)
 (StoreP P T_api_FetchReq (.pointer (some a0)) (.agg #[(.int .i64 0), (.int .i64 0), (.int .i64 0), (.int .i64 0), (.int .i64 0)]) w1 fun w5 =>
 LoadK .val P T_api_FetchReq (.pointer (some a0)) w5 fun (v6 : Value) =>
 R (.tuple #[v6, (.bool false)]) w5)
 (nilCk x0 fun (a7 : Addr) =>
 RunQ .bool P (Instr.loadAt T_bool (.pointer (some (a7.add 6)))) w1 fun (b8 : Bool) =>
 ifB b8
 (StoreP P T_api_FetchReq (.pointer (some a0)) (.agg #[(.int .i64 0), (.int .i64 0), (.int .i64 0), (.int .i64 0), (.int .i64 0)]) w1 fun w9 =>
 LoadK .val P T_api_FetchReq (.pointer (some a0)) w9 fun (v10 : Value) =>
 R (.tuple #[v10, (.bool false)]) w9)
 (nilCk x0 fun (a11 : Addr) =>
 RunQ (.int .i64) P (Instr.loadAt T_int (.pointer (some (a11.add 5)))) w1 fun (n12 : Int) =>
 ifB (decide (n12 < 0))
 (StoreP P T_api_FetchReq (.pointer (some a0)) (.agg #[(.int .i64 0), (.int .i64 0), (.int .i64 0), (.int .i64 0), (.int .i64 0)]) w1 fun w13 =>
 LoadK .val P T_api_FetchReq (.pointer (some a0)) w13 fun (v14 : Value) =>
 R (.tuple #[v14, (.bool false)]) w13)
 (J2 (some ()) w1))))
 fun t3 w4 =>
 nilCk x0 fun (a15 : Addr) =>
 RunQ .ptr P (Instr.loadAt T_p_epochs_Cache (.pointer (some (a15.add 4)))) w4 fun (p16 : Option Addr) =>
 CallP P F_epochs_Cache_Last [(.pointer p16)] w4 fun (v17 : Value) w18 =>
 TupP [(.int .i64), (.int .i64), .bool] v17 fun (t19 : Int × Int × Bool × Unit) =>
 JoinP (T := Int × Unit) (fun J20 =>
 ifB (!t19.snd.snd.fst)
 (J20 (some ((-1), ())) w18)
 (J20 (some (t19.fst, ())) w18))
 fun t21 w22 =>
 ∃ S23 : World → Prop, (S23 w22.drew) ∧
 nilCk x0 fun (a24 : Addr) =>
 HRun S23 (.int .i64) P (Instr.loadAt T_int (.pointer (some (a24.add 0)))) fun (n25 : Int) =>
 nilCk x0 fun (a26 : Addr) =>
 HRun S23 (.int .i64) P (Instr.loadAt T_int (.pointer (some (a26.add 5)))) fun (n27 : Int) =>
 nilCk x0 fun (a28 : Addr) =>
 HRun S23 (.int .i64) P (Instr.loadAt T_int (.pointer (some (a28.add 1)))) fun (n29 : Int) =>
 nilCk x0 fun (a30 : Addr) =>
 HRun S23 .ptr P (Instr.loadAt T_p_seglog_Log (.pointer (some (a30.add 2)))) fun (p31 : Option Addr) =>
 CallP P F_seglog_Log_End [(.pointer p31)] w22.drew fun (v32 : Value) w33 =>
 TyP (.int .i64) v32 fun (n34 : Int) =>
 (S23 w33) ∧
 StoreP P T_api_FetchReq (.pointer (some a0)) (.agg #[(.int .i64 n25), (.int .i64 n27), (.int .i64 n29), (.int .i64 n34), (.int .i64 t21.fst)]) w33 fun w35 =>
 (S23 w35) ∧
 LoadK .val P T_api_FetchReq (.pointer (some a0)) w35 fun (v36 : Value) =>
 R (.tuple #[v36, (.bool true)]) w35
theorem c_replica_Replica_Need {R : Value → World → Prop} {x0 : Option Addr} {w : World} (h : S_replica_Replica_Need R x0 w) : CallP P F_replica_Replica_Need [.pointer x0] w R := mkC (an := ⟨[(6, [(4, (.int .i64))]), (3, [])], [], []⟩) Tryz.func27 (by kernel_rfl) h


/-- (*penstock/replica.Replica).Role -/
def S_replica_Replica_Role (R : Value → World → Prop) (x0 : Option Addr) (w : World) : Prop :=
 ifB (Option.isNone x0)
 (R (.tuple #[(.int .i64 0), (.bool false)]) w)
 (nilCk x0 fun (a0 : Addr) =>
 RunQ (.int .i64) P (Instr.loadAt T_int (.pointer (some (a0.add 5)))) w.drew fun (n1 : Int) =>
 nilCk x0 fun (a2 : Addr) =>
 RunQ .bool P (Instr.loadAt T_bool (.pointer (some (a2.add 6)))) w.drew fun (b3 : Bool) =>
 R (.tuple #[(.int .i64 n1), (.bool b3)]) w.drew)
theorem c_replica_Replica_Role {R : Value → World → Prop} {x0 : Option Addr} {w : World} (h : S_replica_Replica_Role R x0 w) : CallP P F_replica_Replica_Role [.pointer x0] w R := mkC (an := ⟨[], [], []⟩) Tryz.func28 (by kernel_rfl) h


/-- (*penstock/replica.Replica).Follow -/
def S_replica_Replica_Follow (R : Value → World → Prop) (x0 : Option Addr) (x1 : Int) (w : World) : Prop :=
 ifB (Option.isNone x0)
 (R (.int .i64 5) w)
 (nilCk x0 fun (a0 : Addr) =>
 RunQ (.int .i64) P (Instr.loadAt T_int (.pointer (some (a0.add 5)))) w fun (n1 : Int) =>
 ifB (decide (x1 ≤ n1))
 (R (.int .i64 12) w)
 (nilCk x0 fun (a2 : Addr) =>
 StoreP P T_int (.pointer (some (a2.add 5))) (.int .i64 x1) w fun w3 =>
 nilCk x0 fun (a4 : Addr) =>
 StoreP P T_bool (.pointer (some (a4.add 6))) (.bool false) w3 fun w5 =>
 nilCk x0 fun (a6 : Addr) =>
 StoreP P T_sl_int (.pointer (some (a6.add 9))) (.slice none 0 0) w5 fun w7 =>
 nilCk x0 fun (a8 : Addr) =>
 StoreP P T_sl_int (.pointer (some (a8.add 10))) (.slice none 0 0) w7 fun w9 =>
 R (.int .i64 0) w9))
theorem c_replica_Replica_Follow {R : Value → World → Prop} {x0 : Option Addr} {x1 : Int} {w : World} (h : S_replica_Replica_Follow R x0 x1 w) : CallP P F_replica_Replica_Follow [.pointer x0, .int .i64 x1] w R := mkC (an := ⟨[], [], []⟩) Tryz.func29 (by kernel_rfl) h


/-- (*penstock/replica.Replica).Marks -/
def S_replica_Replica_Marks (R : Value → World → Prop) (x0 : Option Addr) (w : World) : Prop :=
 ifB (Option.isNone x0)
 (R (.tuple #[(.int .i64 0), (.int .i64 0), (.int .i64 0), (.int .i64 0)]) w)
 (∃ S0 : World → Prop, (S0 w.drew) ∧
 nilCk x0 fun (a1 : Addr) =>
 HRun S0 .ptr P (Instr.loadAt T_p_seglog_Log (.pointer (some (a1.add 2)))) fun (p2 : Option Addr) =>
 nilCk x0 fun (a3 : Addr) =>
 HRun S0 .ptr P (Instr.loadAt T_p_seglog_Log (.pointer (some (a3.add 2)))) fun (p4 : Option Addr) =>
 nilCk x0 fun (a5 : Addr) =>
 HRun S0 (.int .i64) P (Instr.loadAt T_int (.pointer (some (a5.add 8)))) fun (n6 : Int) =>
 CallP P F_seglog_Log_Start [(.pointer p2)] w.drew fun (v7 : Value) w8 =>
 TyP (.int .i64) v7 fun (n9 : Int) =>
 (S0 w8) ∧
 CallP P F_seglog_Log_End [(.pointer p4)] w8 fun (v10 : Value) w11 =>
 TyP (.int .i64) v10 fun (n12 : Int) =>
 (S0 w11) ∧
 CallP P F_replica_Replica_stable [(.pointer x0)] w11 fun (v13 : Value) w14 =>
 TyP (.int .i64) v13 fun (n15 : Int) =>
 (S0 w14) ∧
 R (.tuple #[(.int .i64 n9), (.int .i64 n12), (.int .i64 n6), (.int .i64 n15)]) w14)
theorem c_replica_Replica_Marks {R : Value → World → Prop} {x0 : Option Addr} {w : World} (h : S_replica_Replica_Marks R x0 w) : CallP P F_replica_Replica_Marks [.pointer x0] w R := mkC (an := ⟨[], [], []⟩) Tryz.func30 (by kernel_rfl) h


/-- (*penstock/replica.Replica).Fetch -/
def S_replica_Replica_Fetch (R : Value → World → Prop) (x0 : Option Addr) (x1 : Value) (w : World) : Prop :=
 RunK .addr P (Instr.box T_api_FetchReq x1) w fun (a0 : Addr) w1 =>
 RunK .addr P (Instr.alloc T_api_FetchReply true (.tuple #[])) w1 fun (a2 : Addr) w3 =>
 ifB (Option.isNone x0)
 (StoreP P T_api_FetchReply (.pointer (some a2)) (.agg #[(.int .i64 0), (.int .i64 0), (.int .i64 5), (.int .i64 0), (.bool false), (.int .i64 0), (.int .i64 0), (.int .i64 0), (.int .i64 0), (.slice none 0 0)]) w3 fun w4 =>
 LoadK .val P T_api_FetchReply (.pointer (some a2)) w4 fun (v5 : Value) =>
 R v5 w4)
 (∃ S6 : World → Prop, (S6 w3.drew) ∧
 nilCk x0 fun (a7 : Addr) =>
 HRun S6 (.int .i64) P (Instr.loadAt T_int (.pointer (some (a7.add 0)))) fun (n8 : Int) =>
 nilCk x0 fun (a9 : Addr) =>
 HRun S6 (.int .i64) P (Instr.loadAt T_int (.pointer (some (a9.add 5)))) fun (n10 : Int) =>
 RunK .addr P (Instr.alloc T_api_FetchReply true (.tuple #[])) w3.drew fun (a11 : Addr) w12 =>
 (S6 w12) ∧
 StoreP P T_api_FetchReply (.pointer (some a11)) (.agg #[(.int .i64 n8), (.int .i64 n10), (.int .i64 0), (.int .i64 0), (.bool false), (.int .i64 0), (.int .i64 0), (.int .i64 0), (.int .i64 0), (.slice none 0 0)]) w12 fun w13 =>
 (S6 w13) ∧
 JoinP (T := Unit) (fun J14 =>
 nilCk x0 fun (a17 : Addr) =>
 RunQ .bool P (Instr.loadAt T_bool (.pointer (some (a17.add 6)))) w13.drew fun (b18 : Bool) =>
 ifB (!b18)
 (∃ S19 : World → Prop, (S19 w13.drew.drew) ∧
 nilCk x0 fun (a20 : Addr) =>
 HRun S19 (.int .i64) P (Instr.loadAt T_int (.pointer (some (a20.add 0)))) fun (n21 : Int) =>
 nilCk x0 fun (a22 : Addr) =>
 HRun S19 (.int .i64) P (Instr.loadAt T_int (.pointer (some (a22.add 5)))) fun (n23 : Int) =>
 StoreP P T_api_FetchReply (.pointer (some a2)) (.agg #[(.int .i64 n21), (.int .i64 n23), (.int .i64 12), (.int .i64 0), (.bool false), (.int .i64 0), (.int .i64 0), (.int .i64 0), (.int .i64 0), (.slice none 0 0)]) w13.drew.drew fun w24 =>
 (S19 w24) ∧
 LoadK .val P T_api_FetchReply (.pointer (some a2)) w24 fun (v25 : Value) =>
 R v25 w24)
 (RunQ (.int .i64) P (Instr.loadAt T_int (.pointer (some (Go.Addr.add a0 1)))) w13.drew fun (n26 : Int) =>
 nilCk x0 fun (a27 : Addr) =>
 RunQ (.int .i64) P (Instr.loadAt T_int (.pointer (some (a27.add 5)))) w13.drew fun (n28 : Int) =>
 ifB (n26 != n28)
 (∃ S29 : World → Prop, (S29 w13.drew.drew) ∧
 nilCk x0 fun (a30 : Addr) =>
 HRun S29 (.int .i64) P (Instr.loadAt T_int (.pointer (some (a30.add 0)))) fun (n31 : Int) =>
 nilCk x0 fun (a32 : Addr) =>
 HRun S29 (.int .i64) P (Instr.loadAt T_int (.pointer (some (a32.add 5)))) fun (n33 : Int) =>
 StoreP P T_api_FetchReply (.pointer (some a2)) (.agg #[(.int .i64 n31), (.int .i64 n33), (.int .i64 12), (.int .i64 0), (.bool false), (.int .i64 0), (.int .i64 0), (.int .i64 0), (.int .i64 0), (.slice none 0 0)]) w13.drew.drew fun w34 =>
 (S29 w34) ∧
 LoadK .val P T_api_FetchReply (.pointer (some a2)) w34 fun (v35 : Value) =>
 R v35 w34)
 (RunQ (.int .i64) P (Instr.loadAt T_int (.pointer (some (Go.Addr.add a0 0)))) w13.drew fun (n36 : Int) =>
 nilCk x0 fun (a37 : Addr) =>
 RunQ (.int .i64) P (Instr.loadAt T_int (.pointer (some (a37.add 0)))) w13.drew fun (n38 : Int) =>
 ifB (n36 != n38)
 (∃ S39 : World → Prop, (S39 w13.drew.drew) ∧
 nilCk x0 fun (a40 : Addr) =>
 HRun S39 (.int .i64) P (Instr.loadAt T_int (.pointer (some (a40.add 0)))) fun (n41 : Int) =>
 nilCk x0 fun (a42 : Addr) =>
 HRun S39 (.int .i64) P (Instr.loadAt T_int (.pointer (some (a42.add 5)))) fun (n43 : Int) =>
 StoreP P T_api_FetchReply (.pointer (some a2)) (.agg #[(.int .i64 n41), (.int .i64 n43), (.int .i64 12), (.int .i64 0), (.bool false), (.int .i64 0), (.int .i64 0), (.int .i64 0), (.int .i64 0), (.slice none 0 0)]) w13.drew.drew fun w44 =>
 (S39 w44) ∧
 LoadK .val P T_api_FetchReply (.pointer (some a2)) w44 fun (v45 : Value) =>
 R v45 w44)
 (RunQ (.int .i64) P (Instr.loadAt T_int (.pointer (some (Go.Addr.add a0 2)))) w13.drew fun (n46 : Int) =>
 nilCk x0 fun (a47 : Addr) =>
 RunQ (.int .i64) P (Instr.loadAt T_int (.pointer (some (a47.add 1)))) w13.drew fun (n48 : Int) =>
 ifB (n46 == n48)
 (∃ S49 : World → Prop, (S49 w13.drew.drew) ∧
 nilCk x0 fun (a50 : Addr) =>
 HRun S49 (.int .i64) P (Instr.loadAt T_int (.pointer (some (a50.add 0)))) fun (n51 : Int) =>
 nilCk x0 fun (a52 : Addr) =>
 HRun S49 (.int .i64) P (Instr.loadAt T_int (.pointer (some (a52.add 5)))) fun (n53 : Int) =>
 StoreP P T_api_FetchReply (.pointer (some a2)) (.agg #[(.int .i64 n51), (.int .i64 n53), (.int .i64 12), (.int .i64 0), (.bool false), (.int .i64 0), (.int .i64 0), (.int .i64 0), (.int .i64 0), (.slice none 0 0)]) w13.drew.drew fun w54 =>
 (S49 w54) ∧
 LoadK .val P T_api_FetchReply (.pointer (some a2)) w54 fun (v55 : Value) =>
 R v55 w54)
 (RunQ (.int .i64) P (Instr.loadAt T_int (.pointer (some (Go.Addr.add a0 2)))) w13.drew fun (n56 : Int) =>
 ifB (decide (n56 < 0))
 (∃ S57 : World → Prop, (S57 w13.drew.drew) ∧
 nilCk x0 fun (a58 : Addr) =>
 HRun S57 (.int .i64) P (Instr.loadAt T_int (.pointer (some (a58.add 0)))) fun (n59 : Int) =>
 nilCk x0 fun (a60 : Addr) =>
 HRun S57 (.int .i64) P (Instr.loadAt T_int (.pointer (some (a60.add 5)))) fun (n61 : Int) =>
 StoreP P T_api_FetchReply (.pointer (some a2)) (.agg #[(.int .i64 n59), (.int .i64 n61), (.int .i64 12), (.int .i64 0), (.bool false), (.int .i64 0), (.int .i64 0), (.int .i64 0), (.int .i64 0), (.slice none 0 0)]) w13.drew.drew fun w62 =>
 (S57 w62) ∧
 LoadK .val P T_api_FetchReply (.pointer (some a2)) w62 fun (v63 : Value) =>
 R v63 w62)
 (RunQ (.int .i64) P (Instr.loadAt T_int (.pointer (some (Go.Addr.add a0 2)))) w13.drew fun (n64 : Int) =>
 ifB (decide (n64 ≥ 5))
 (∃ S65 : World → Prop, (S65 w13.drew.drew) ∧
 nilCk x0 fun (a66 : Addr) =>
 HRun S65 (.int .i64) P (Instr.loadAt T_int (.pointer (some (a66.add 0)))) fun (n67 : Int) =>
 nilCk x0 fun (a68 : Addr) =>
 HRun S65 (.int .i64) P (Instr.loadAt T_int (.pointer (some (a68.add 5)))) fun (n69 : Int) =>
 StoreP P T_api_FetchReply (.pointer (some a2)) (.agg #[(.int .i64 n67), (.int .i64 n69), (.int .i64 12), (.int .i64 0), (.bool false), (.int .i64 0), (.int .i64 0), (.int .i64 0), (.int .i64 0), (.slice none 0 0)]) w13.drew.drew fun w70 =>
 (S65 w70) ∧
 LoadK .val P T_api_FetchReply (.pointer (some a2)) w70 fun (v71 : Value) =>
 R v71 w70)
 (J14 (some ()) w13.drew)))))))
 fun t15 w16 =>
 JoinP (T := Unit) (fun J72 =>
 RunQ (.int .i64) P (Instr.loadAt T_int (.pointer (some (Go.Addr.add a0 3)))) w16 fun (n75 : Int) =>
 ifB (decide (n75 < 0))
 (∃ S76 : World → Prop, (S76 w16.drew) ∧
 nilCk x0 fun (a77 : Addr) =>
 HRun S76 (.int .i64) P (Instr.loadAt T_int (.pointer (some (a77.add 0)))) fun (n78 : Int) =>
 nilCk x0 fun (a79 : Addr) =>
 HRun S76 (.int .i64) P (Instr.loadAt T_int (.pointer (some (a79.add 5)))) fun (n80 : Int) =>
 StoreP P T_api_FetchReply (.pointer (some a2)) (.agg #[(.int .i64 n78), (.int .i64 n80), (.int .i64 13), (.int .i64 0), (.bool false), (.int .i64 0), (.int .i64 0), (.int .i64 0), (.int .i64 0), (.slice none 0 0)]) w16.drew fun w81 =>
 (S76 w81) ∧
 LoadK .val P T_api_FetchReply (.pointer (some a2)) w81 fun (v82 : Value) =>
 R v82 w81)
 (RunQ (.int .i64) P (Instr.loadAt T_int (.pointer (some (Go.Addr.add a0 4)))) w16 fun (n83 : Int) =>
 ifB (decide (n83 < -1))
 (∃ S84 : World → Prop, (S84 w16.drew) ∧
 nilCk x0 fun (a85 : Addr) =>
 HRun S84 (.int .i64) P (Instr.loadAt T_int (.pointer (some (a85.add 0)))) fun (n86 : Int) =>
 nilCk x0 fun (a87 : Addr) =>
 HRun S84 (.int .i64) P (Instr.loadAt T_int (.pointer (some (a87.add 5)))) fun (n88 : Int) =>
 StoreP P T_api_FetchReply (.pointer (some a2)) (.agg #[(.int .i64 n86), (.int .i64 n88), (.int .i64 13), (.int .i64 0), (.bool false), (.int .i64 0), (.int .i64 0), (.int .i64 0), (.int .i64 0), (.slice none 0 0)]) w16.drew fun w89 =>
 (S84 w89) ∧
 LoadK .val P T_api_FetchReply (.pointer (some a2)) w89 fun (v90 : Value) =>
 R v90 w89)
 (J72 (some ()) w16)))
 fun t73 w74 =>
 JoinP (T := Unit) (fun J91 =>
 RunQ (.int .i64) P (Instr.loadAt T_int (.pointer (some (Go.Addr.add a0 3)))) w74 fun (n94 : Int) =>
 ifB (decide (n94 > 0))
 (∃ S95 : World → Prop, (S95 w74.drew) ∧
 nilCk x0 fun (a96 : Addr) =>
 HRun S95 .ptr P (Instr.loadAt T_p_epochs_Cache (.pointer (some (a96.add 4)))) fun (p97 : Option Addr) =>
 HRun S95 (.int .i64) P (Instr.loadAt T_int (.pointer (some (Go.Addr.add a0 4)))) fun (n98 : Int) =>
 nilCk x0 fun (a99 : Addr) =>
 HRun S95 .ptr P (Instr.loadAt T_p_seglog_Log (.pointer (some (a99.add 2)))) fun (p100 : Option Addr) =>
 CallP P F_seglog_Log_End [(.pointer p100)] w74.drew fun (v101 : Value) w102 =>
 TyP (.int .i64) v101 fun (n103 : Int) =>
 (S95 w102) ∧
 CallP P F_epochs_Cache_End [(.pointer p97), (.int .i64 n98), (.int .i64 n103)] w102 fun (v104 : Value) w105 =>
 TupP [(.int .i64), (.int .i64), .bool] v104 fun (t106 : Int × Int × Bool × Unit) =>
 (S95 w105) ∧
 ifB (!t106.snd.snd.fst)
 (StoreP P T_bool (.pointer (some (Go.Addr.add a11 4))) (.bool true) w105 fun w107 =>
 StoreP P T_int (.pointer (some (Go.Addr.add a11 5))) (.int .i64 (-1)) w107 fun w108 =>
 ∃ S109 : World → Prop, (S109 w108.drew) ∧
 HRun S109 (.int .i64) P (Instr.loadAt T_int (.pointer (some (Go.Addr.add a0 3)))) fun (n110 : Int) =>
 HRun S109 (.int .i64) P (Instr.loadAt T_int (.pointer (some (Go.Addr.add a0 4)))) fun (n111 : Int) =>
 StoreP P T_int (.pointer (some (Go.Addr.add a11 7))) (.int .i64 n110) w108.drew fun w112 =>
 (S109 w112) ∧
 StoreP P T_int (.pointer (some (Go.Addr.add a11 8))) (.int .i64 n111) w112 fun w113 =>
 (S109 w113) ∧
 ifB t106.snd.snd.fst
 (StoreP P T_int (.pointer (some (Go.Addr.add a11 5))) (.int .i64 t106.fst) w113 fun w114 =>
 StoreP P T_int (.pointer (some (Go.Addr.add a11 6))) (.int .i64 t106.snd.fst) w114 fun w115 =>
 RunQ .val P (Instr.loadAt T_api_FetchReply (.pointer (some a11))) w115 fun (v116 : Value) =>
 StoreP P T_api_FetchReply (.pointer (some a2)) v116 w115 fun w117 =>
 LoadK .val P T_api_FetchReply (.pointer (some a2)) w117 fun (v118 : Value) =>
 R v118 w117)
 (RunQ .val P (Instr.loadAt T_api_FetchReply (.pointer (some a11))) w113 fun (v119 : Value) =>
 StoreP P T_api_FetchReply (.pointer (some a2)) v119 w113 fun w120 =>
 LoadK .val P T_api_FetchReply (.pointer (some a2)) w120 fun (v121 : Value) =>
 R v121 w120))
 (RunQ (.int .i64) P (Instr.loadAt T_int (.pointer (some (Go.Addr.add a0 4)))) w105 fun (n122 : Int) =>
 ifB (t106.fst != n122)
 (StoreP P T_bool (.pointer (some (Go.Addr.add a11 4))) (.bool true) w105 fun w123 =>
 StoreP P T_int (.pointer (some (Go.Addr.add a11 5))) (.int .i64 (-1)) w123 fun w124 =>
 ∃ S125 : World → Prop, (S125 w124.drew) ∧
 HRun S125 (.int .i64) P (Instr.loadAt T_int (.pointer (some (Go.Addr.add a0 3)))) fun (n126 : Int) =>
 HRun S125 (.int .i64) P (Instr.loadAt T_int (.pointer (some (Go.Addr.add a0 4)))) fun (n127 : Int) =>
 StoreP P T_int (.pointer (some (Go.Addr.add a11 7))) (.int .i64 n126) w124.drew fun w128 =>
 (S125 w128) ∧
 StoreP P T_int (.pointer (some (Go.Addr.add a11 8))) (.int .i64 n127) w128 fun w129 =>
 (S125 w129) ∧
 ifB t106.snd.snd.fst
 (StoreP P T_int (.pointer (some (Go.Addr.add a11 5))) (.int .i64 t106.fst) w129 fun w130 =>
 StoreP P T_int (.pointer (some (Go.Addr.add a11 6))) (.int .i64 t106.snd.fst) w130 fun w131 =>
 RunQ .val P (Instr.loadAt T_api_FetchReply (.pointer (some a11))) w131 fun (v132 : Value) =>
 StoreP P T_api_FetchReply (.pointer (some a2)) v132 w131 fun w133 =>
 LoadK .val P T_api_FetchReply (.pointer (some a2)) w133 fun (v134 : Value) =>
 R v134 w133)
 (RunQ .val P (Instr.loadAt T_api_FetchReply (.pointer (some a11))) w129 fun (v135 : Value) =>
 StoreP P T_api_FetchReply (.pointer (some a2)) v135 w129 fun w136 =>
 LoadK .val P T_api_FetchReply (.pointer (some a2)) w136 fun (v137 : Value) =>
 R v137 w136))
 (RunQ (.int .i64) P (Instr.loadAt T_int (.pointer (some (Go.Addr.add a0 3)))) w105 fun (n138 : Int) =>
 ifB (decide (n138 > t106.snd.fst))
 (StoreP P T_bool (.pointer (some (Go.Addr.add a11 4))) (.bool true) w105 fun w139 =>
 StoreP P T_int (.pointer (some (Go.Addr.add a11 5))) (.int .i64 (-1)) w139 fun w140 =>
 ∃ S141 : World → Prop, (S141 w140.drew) ∧
 HRun S141 (.int .i64) P (Instr.loadAt T_int (.pointer (some (Go.Addr.add a0 3)))) fun (n142 : Int) =>
 HRun S141 (.int .i64) P (Instr.loadAt T_int (.pointer (some (Go.Addr.add a0 4)))) fun (n143 : Int) =>
 StoreP P T_int (.pointer (some (Go.Addr.add a11 7))) (.int .i64 n142) w140.drew fun w144 =>
 (S141 w144) ∧
 StoreP P T_int (.pointer (some (Go.Addr.add a11 8))) (.int .i64 n143) w144 fun w145 =>
 (S141 w145) ∧
 ifB t106.snd.snd.fst
 (StoreP P T_int (.pointer (some (Go.Addr.add a11 5))) (.int .i64 t106.fst) w145 fun w146 =>
 StoreP P T_int (.pointer (some (Go.Addr.add a11 6))) (.int .i64 t106.snd.fst) w146 fun w147 =>
 RunQ .val P (Instr.loadAt T_api_FetchReply (.pointer (some a11))) w147 fun (v148 : Value) =>
 StoreP P T_api_FetchReply (.pointer (some a2)) v148 w147 fun w149 =>
 LoadK .val P T_api_FetchReply (.pointer (some a2)) w149 fun (v150 : Value) =>
 R v150 w149)
 (RunQ .val P (Instr.loadAt T_api_FetchReply (.pointer (some a11))) w145 fun (v151 : Value) =>
 StoreP P T_api_FetchReply (.pointer (some a2)) v151 w145 fun w152 =>
 LoadK .val P T_api_FetchReply (.pointer (some a2)) w152 fun (v153 : Value) =>
 R v153 w152))
 (J91 (some ()) w105))))
 (J91 (some ()) w74))
 fun t92 w93 =>
 RunQ .val P (Instr.loadAt T_api_FetchReq (.pointer (some a0))) w93 fun (v154 : Value) =>
 CallP P F_replica_Replica_seen [(.pointer x0), v154] w93 fun (v155 : Value) w156 =>
 TupP [] v155 fun (t157 : Unit) =>
 nilCk x0 fun (a158 : Addr) =>
 RunQ (.int .i64) P (Instr.loadAt T_int (.pointer (some (a158.add 8)))) w156 fun (n159 : Int) =>
 StoreP P T_int (.pointer (some (Go.Addr.add a11 3))) (.int .i64 n159) w156 fun w160 =>
 ∃ S161 : World → Prop, (S161 w160.drew) ∧
 nilCk x0 fun (a162 : Addr) =>
 HRun S161 .ptr P (Instr.loadAt T_p_seglog_Log (.pointer (some (a162.add 2)))) fun (p163 : Option Addr) =>
 HRun S161 (.int .i64) P (Instr.loadAt T_int (.pointer (some (Go.Addr.add a0 3)))) fun (n164 : Int) =>
 CallP P F_seglog_Log_Read [(.pointer p163), (.int .i64 n164), (.int .i64 8)] w160.drew fun (v165 : Value) w166 =>
 TyP .sl v165 fun (s167 : Sl) =>
 (S161 w166) ∧
 StoreP P T_sl_api_Batch (.pointer (some (Go.Addr.add a11 9))) s167.v w166 fun w168 =>
 (S161 w168) ∧
 RunQ .val P (Instr.loadAt T_api_FetchReply (.pointer (some a11))) w168 fun (v169 : Value) =>
 StoreP P T_api_FetchReply (.pointer (some a2)) v169 w168 fun w170 =>
 LoadK .val P T_api_FetchReply (.pointer (some a2)) w170 fun (v171 : Value) =>
 R v171 w170)
theorem c_replica_Replica_Fetch {R : Value → World → Prop} {x0 : Option Addr} {x1 : Value} {w : World} (h : S_replica_Replica_Fetch R x0 x1 w) : CallP P F_replica_Replica_Fetch [.pointer x0, x1] w R := mkC (an := ⟨[(16, []), (8, []), (6, [])], [], []⟩) Tryz.func31 (by kernel_rfl) h


/-- (*penstock/replica.Replica).Sync -/
def S_replica_Replica_Sync (R : Value → World → Prop) (x0 : Option Addr) (x1 : Int) (x2 : Sl) (w : World) : Prop :=
 JoinP (T := Unit) (fun J0 =>
 ifB (Option.isNone x0)
 (R (.int .i64 5) w)
 (nilCk x0 fun (a3 : Addr) =>
 RunQ .bool P (Instr.loadAt T_bool (.pointer (some (a3.add 6)))) w fun (b4 : Bool) =>
 ifB (!b4)
 (R (.int .i64 12) w)
 (nilCk x0 fun (a5 : Addr) =>
 RunQ (.int .i64) P (Instr.loadAt T_int (.pointer (some (a5.add 5)))) w fun (n6 : Int) =>
 ifB (x1 != n6)
 (R (.int .i64 12) w)
 (J0 (some ()) w))))
 fun t1 w2 =>
 CallP P F_slices_Clone_int_int [x2.v] w2 fun (v7 : Value) w8 =>
 TyP .sl v7 fun (s9 : Sl) =>
 nilCk x0 fun (a10 : Addr) =>
 StoreP P T_sl_int (.pointer (some (a10.add 9))) s9.v w8 fun w11 =>
 nilCk x0 fun (a12 : Addr) =>
 StoreP P T_sl_int (.pointer (some (a12.add 10))) (.slice none 0 0) w11 fun w13 =>
 CallP P F_replica_Replica_rise [(.pointer x0)] w13 fun (v14 : Value) w15 =>
 TupP [] v14 fun (t16 : Unit) =>
 R (.int .i64 0) w15
theorem c_replica_Replica_Sync {R : Value → World → Prop} {x0 : Option Addr} {x1 : Int} {x2 : Sl} {w : World} (h : S_replica_Replica_Sync R x0 x1 x2 w) : CallP P F_replica_Replica_Sync [.pointer x0, .int .i64 x1, x2.v] w R := mkC (an := ⟨[(5, [])], [], []⟩) Tryz.func32 (by kernel_rfl) h


/-- (*penstock/replica.Replica).Want -/
def S_replica_Replica_Want (R : Value → World → Prop) (x0 : Option Addr) (x1 : Sl) (w : World) : Prop :=
 JoinP (T := Unit) (fun J0 =>
 ifB (Option.isNone x0)
 (R (.tuple #[(.slice none 0 0), (.bool false)]) w)
 (nilCk x0 fun (a3 : Addr) =>
 RunQ .bool P (Instr.loadAt T_bool (.pointer (some (a3.add 6)))) w fun (b4 : Bool) =>
 ifB (!b4)
 (R (.tuple #[(.slice none 0 0), (.bool false)]) w)
 (J0 (some ()) w)))
 fun t1 w2 =>
 LoopP (T := Sl × Int × Unit) (some (⟨none, 0, 0⟩, (0, ()))) w2 fun next5 t6 w7 =>
 ifB (decide (t6.snd.fst < 5))
 (∃ S8 : World → Prop, (S8 w7.drew) ∧
 nilCk x0 fun (a9 : Addr) =>
 HRun S8 .map P (Instr.loadAt T_map_int_p_replica_peer (.pointer (some (a9.add 11)))) fun (m10 : Option Nat) =>
 nilCk x0 fun (a11 : Addr) =>
 HRun S8 .sl P (Instr.loadAt T_sl_int (.pointer (some (a11.add 9)))) fun (s12 : Sl) =>
 (RunV P (Instr.lookup T_map_int_p_replica_peer (.map m10) (.int .i64 t6.snd.fst) false) w7.drew fun (v13 : Value) w14 =>
 TyP .ptr v13 fun (p15 : Option Addr) =>
 (S8 w14) ∧
 CallP P F_slices_Contains_int_int [s12.v, (.int .i64 t6.snd.fst)] w14 fun (v16 : Value) w17 =>
 TyP .bool v16 fun (b18 : Bool) =>
 (S8 w17) ∧
 nilCk x0 fun (a19 : Addr) =>
 RunQ (.int .i64) P (Instr.loadAt T_int (.pointer (some (a19.add 1)))) w17 fun (n20 : Int) =>
 ifB (t6.snd.fst == n20)
 (RunK .sl P (Instr.buildSlice T_sl_int 1 #[(0, (.int .i64 t6.snd.fst))]) w17 fun (s21 : Sl) w22 =>
 RunK .sl P (Builtin.append_ #[T_sl_int, T_sl_int] T_sl_int #[t6.fst.v, s21.v]) w22 fun (s23 : Sl) w24 =>
 next5 (some (s23, ((IntKind.i64.wrap (t6.snd.fst + 1)), ()))) w24)
 (CallP P F_slices_Contains_int_int [x1.v, (.int .i64 t6.snd.fst)] w17 fun (v25 : Value) w26 =>
 TyP .bool v25 fun (b27 : Bool) =>
 ifB (!b27)
 (next5 (some (t6.fst, ((IntKind.i64.wrap (t6.snd.fst + 1)), ()))) w26)
 (ifB b18
 (ifB (Option.isNone p15)
 (RunK .sl P (Instr.buildSlice T_sl_int 1 #[(0, (.int .i64 t6.snd.fst))]) w26 fun (s28 : Sl) w29 =>
 RunK .sl P (Builtin.append_ #[T_sl_int, T_sl_int] T_sl_int #[t6.fst.v, s28.v]) w29 fun (s30 : Sl) w31 =>
 next5 (some (s30, ((IntKind.i64.wrap (t6.snd.fst + 1)), ()))) w31)
 (nilCk p15 fun (a32 : Addr) =>
 RunQ (.int .i64) P (Instr.loadAt T_int (.pointer (some (a32.add 1)))) w26 fun (n33 : Int) =>
 ifB (decide (n33 < 6))
 (RunK .sl P (Instr.buildSlice T_sl_int 1 #[(0, (.int .i64 t6.snd.fst))]) w26 fun (s34 : Sl) w35 =>
 RunK .sl P (Builtin.append_ #[T_sl_int, T_sl_int] T_sl_int #[t6.fst.v, s34.v]) w35 fun (s36 : Sl) w37 =>
 next5 (some (s36, ((IntKind.i64.wrap (t6.snd.fst + 1)), ()))) w37)
 (ifB (!b18)
 (ifB (!Option.isNone p15)
 (nilCk p15 fun (a38 : Addr) =>
 RunQ (.int .i64) P (Instr.loadAt T_int (.pointer (some (a38.add 1)))) w26.drew fun (n39 : Int) =>
 ifB (decide (n39 < 6))
 (nilCk p15 fun (a40 : Addr) =>
 RunQ (.int .i64) P (Instr.loadAt T_int (.pointer (some (a40.add 0)))) w26.drew fun (n41 : Int) =>
 nilCk x0 fun (a42 : Addr) =>
 RunQ (.int .i64) P (Instr.loadAt T_int (.pointer (some (a42.add 8)))) w26.drew fun (n43 : Int) =>
 nilCk x0 fun (a44 : Addr) =>
 RunQ (.int .i64) P (Instr.loadAt T_int (.pointer (some (a44.add 7)))) w26.drew fun (n45 : Int) =>
 ifB (decide (n41 ≥ if n45 > n43 then n45 else n43))
 (RunK .sl P (Instr.buildSlice T_sl_int 1 #[(0, (.int .i64 t6.snd.fst))]) w26.drew fun (s46 : Sl) w47 =>
 RunK .sl P (Builtin.append_ #[T_sl_int, T_sl_int] T_sl_int #[t6.fst.v, s46.v]) w47 fun (s48 : Sl) w49 =>
 next5 (some (s48, ((IntKind.i64.wrap (t6.snd.fst + 1)), ()))) w49)
 (next5 (some (t6.fst, ((IntKind.i64.wrap (t6.snd.fst + 1)), ()))) w26.drew))
 (next5 (some (t6.fst, ((IntKind.i64.wrap (t6.snd.fst + 1)), ()))) w26.drew))
 (next5 (some (t6.fst, ((IntKind.i64.wrap (t6.snd.fst + 1)), ()))) w26.drew))
 (next5 (some (t6.fst, ((IntKind.i64.wrap (t6.snd.fst + 1)), ()))) w26.drew))))
 (ifB (!b18)
 (ifB (!Option.isNone p15)
 (nilCk p15 fun (a50 : Addr) =>
 RunQ (.int .i64) P (Instr.loadAt T_int (.pointer (some (a50.add 1)))) w26.drew fun (n51 : Int) =>
 ifB (decide (n51 < 6))
 (nilCk p15 fun (a52 : Addr) =>
 RunQ (.int .i64) P (Instr.loadAt T_int (.pointer (some (a52.add 0)))) w26.drew fun (n53 : Int) =>
 nilCk x0 fun (a54 : Addr) =>
 RunQ (.int .i64) P (Instr.loadAt T_int (.pointer (some (a54.add 8)))) w26.drew fun (n55 : Int) =>
 nilCk x0 fun (a56 : Addr) =>
 RunQ (.int .i64) P (Instr.loadAt T_int (.pointer (some (a56.add 7)))) w26.drew fun (n57 : Int) =>
 ifB (decide (n53 ≥ if n57 > n55 then n57 else n55))
 (RunK .sl P (Instr.buildSlice T_sl_int 1 #[(0, (.int .i64 t6.snd.fst))]) w26.drew fun (s58 : Sl) w59 =>
 RunK .sl P (Builtin.append_ #[T_sl_int, T_sl_int] T_sl_int #[t6.fst.v, s58.v]) w59 fun (s60 : Sl) w61 =>
 next5 (some (s60, ((IntKind.i64.wrap (t6.snd.fst + 1)), ()))) w61)
 (next5 (some (t6.fst, ((IntKind.i64.wrap (t6.snd.fst + 1)), ()))) w26.drew))
 (next5 (some (t6.fst, ((IntKind.i64.wrap (t6.snd.fst + 1)), ()))) w26.drew))
 (next5 (some (t6.fst, ((IntKind.i64.wrap (t6.snd.fst + 1)), ()))) w26.drew))
 (next5 (some (t6.fst, ((IntKind.i64.wrap (t6.snd.fst + 1)), ()))) w26.drew))))) ∧
 (CallP P F_slices_Contains_int_int [s12.v, (.int .i64 t6.snd.fst)] w7.drew fun (v62 : Value) w63 =>
 TyP .bool v62 fun (b64 : Bool) =>
 (S8 w63) ∧
 RunV P (Instr.lookup T_map_int_p_replica_peer (.map m10) (.int .i64 t6.snd.fst) false) w63 fun (v65 : Value) w66 =>
 TyP .ptr v65 fun (p67 : Option Addr) =>
 (S8 w66) ∧
 nilCk x0 fun (a68 : Addr) =>
 RunQ (.int .i64) P (Instr.loadAt T_int (.pointer (some (a68.add 1)))) w66 fun (n69 : Int) =>
 ifB (t6.snd.fst == n69)
 (RunK .sl P (Instr.buildSlice T_sl_int 1 #[(0, (.int .i64 t6.snd.fst))]) w66 fun (s70 : Sl) w71 =>
 RunK .sl P (Builtin.append_ #[T_sl_int, T_sl_int] T_sl_int #[t6.fst.v, s70.v]) w71 fun (s72 : Sl) w73 =>
 next5 (some (s72, ((IntKind.i64.wrap (t6.snd.fst + 1)), ()))) w73)
 (CallP P F_slices_Contains_int_int [x1.v, (.int .i64 t6.snd.fst)] w66 fun (v74 : Value) w75 =>
 TyP .bool v74 fun (b76 : Bool) =>
 ifB (!b76)
 (next5 (some (t6.fst, ((IntKind.i64.wrap (t6.snd.fst + 1)), ()))) w75)
 (ifB b64
 (ifB (Option.isNone p67)
 (RunK .sl P (Instr.buildSlice T_sl_int 1 #[(0, (.int .i64 t6.snd.fst))]) w75 fun (s77 : Sl) w78 =>
 RunK .sl P (Builtin.append_ #[T_sl_int, T_sl_int] T_sl_int #[t6.fst.v, s77.v]) w78 fun (s79 : Sl) w80 =>
 next5 (some (s79, ((IntKind.i64.wrap (t6.snd.fst + 1)), ()))) w80)
 (nilCk p67 fun (a81 : Addr) =>
 RunQ (.int .i64) P (Instr.loadAt T_int (.pointer (some (a81.add 1)))) w75 fun (n82 : Int) =>
 ifB (decide (n82 < 6))
 (RunK .sl P (Instr.buildSlice T_sl_int 1 #[(0, (.int .i64 t6.snd.fst))]) w75 fun (s83 : Sl) w84 =>
 RunK .sl P (Builtin.append_ #[T_sl_int, T_sl_int] T_sl_int #[t6.fst.v, s83.v]) w84 fun (s85 : Sl) w86 =>
 next5 (some (s85, ((IntKind.i64.wrap (t6.snd.fst + 1)), ()))) w86)
 (ifB (!b64)
 (ifB (!Option.isNone p67)
 (nilCk p67 fun (a87 : Addr) =>
 RunQ (.int .i64) P (Instr.loadAt T_int (.pointer (some (a87.add 1)))) w75.drew fun (n88 : Int) =>
 ifB (decide (n88 < 6))
 (nilCk p67 fun (a89 : Addr) =>
 RunQ (.int .i64) P (Instr.loadAt T_int (.pointer (some (a89.add 0)))) w75.drew fun (n90 : Int) =>
 nilCk x0 fun (a91 : Addr) =>
 RunQ (.int .i64) P (Instr.loadAt T_int (.pointer (some (a91.add 8)))) w75.drew fun (n92 : Int) =>
 nilCk x0 fun (a93 : Addr) =>
 RunQ (.int .i64) P (Instr.loadAt T_int (.pointer (some (a93.add 7)))) w75.drew fun (n94 : Int) =>
 ifB (decide (n90 ≥ if n94 > n92 then n94 else n92))
 (RunK .sl P (Instr.buildSlice T_sl_int 1 #[(0, (.int .i64 t6.snd.fst))]) w75.drew fun (s95 : Sl) w96 =>
 RunK .sl P (Builtin.append_ #[T_sl_int, T_sl_int] T_sl_int #[t6.fst.v, s95.v]) w96 fun (s97 : Sl) w98 =>
 next5 (some (s97, ((IntKind.i64.wrap (t6.snd.fst + 1)), ()))) w98)
 (next5 (some (t6.fst, ((IntKind.i64.wrap (t6.snd.fst + 1)), ()))) w75.drew))
 (next5 (some (t6.fst, ((IntKind.i64.wrap (t6.snd.fst + 1)), ()))) w75.drew))
 (next5 (some (t6.fst, ((IntKind.i64.wrap (t6.snd.fst + 1)), ()))) w75.drew))
 (next5 (some (t6.fst, ((IntKind.i64.wrap (t6.snd.fst + 1)), ()))) w75.drew))))
 (ifB (!b64)
 (ifB (!Option.isNone p67)
 (nilCk p67 fun (a99 : Addr) =>
 RunQ (.int .i64) P (Instr.loadAt T_int (.pointer (some (a99.add 1)))) w75.drew fun (n100 : Int) =>
 ifB (decide (n100 < 6))
 (nilCk p67 fun (a101 : Addr) =>
 RunQ (.int .i64) P (Instr.loadAt T_int (.pointer (some (a101.add 0)))) w75.drew fun (n102 : Int) =>
 nilCk x0 fun (a103 : Addr) =>
 RunQ (.int .i64) P (Instr.loadAt T_int (.pointer (some (a103.add 8)))) w75.drew fun (n104 : Int) =>
 nilCk x0 fun (a105 : Addr) =>
 RunQ (.int .i64) P (Instr.loadAt T_int (.pointer (some (a105.add 7)))) w75.drew fun (n106 : Int) =>
 ifB (decide (n102 ≥ if n106 > n104 then n106 else n104))
 (RunK .sl P (Instr.buildSlice T_sl_int 1 #[(0, (.int .i64 t6.snd.fst))]) w75.drew fun (s107 : Sl) w108 =>
 RunK .sl P (Builtin.append_ #[T_sl_int, T_sl_int] T_sl_int #[t6.fst.v, s107.v]) w108 fun (s109 : Sl) w110 =>
 next5 (some (s109, ((IntKind.i64.wrap (t6.snd.fst + 1)), ()))) w110)
 (next5 (some (t6.fst, ((IntKind.i64.wrap (t6.snd.fst + 1)), ()))) w75.drew))
 (next5 (some (t6.fst, ((IntKind.i64.wrap (t6.snd.fst + 1)), ()))) w75.drew))
 (next5 (some (t6.fst, ((IntKind.i64.wrap (t6.snd.fst + 1)), ()))) w75.drew))
 (next5 (some (t6.fst, ((IntKind.i64.wrap (t6.snd.fst + 1)), ()))) w75.drew))))) ∧
 True)
 (∃ S111 : World → Prop, (S111 w7.drew) ∧
 nilCk x0 fun (a112 : Addr) =>
 HRun S111 .sl P (Instr.loadAt T_sl_int (.pointer (some (a112.add 9)))) fun (s113 : Sl) =>
 CallP P F_slices_Equal_int_int [t6.fst.v, s113.v] w7.drew fun (v114 : Value) w115 =>
 TyP .bool v114 fun (b116 : Bool) =>
 (S111 w115) ∧
 ifB (!b116)
 (R (.tuple #[t6.fst.v, (.bool true)]) w115)
 (nilCk x0 fun (a117 : Addr) =>
 HRun S111 .sl P (Instr.loadAt T_sl_int (.pointer (some (a117.add 10)))) fun (s118 : Sl) =>
 R (.tuple #[t6.fst.v, (.bool (decide ((↑s118.len : Int) > 0)))]) w115))
theorem c_replica_Replica_Want {R : Value → World → Prop} {x0 : Option Addr} {x1 : Sl} {w : World} (h : S_replica_Replica_Want R x0 x1 w) : CallP P F_replica_Replica_Want [.pointer x0, x1.v] w R := mkC (an := ⟨[(3, [])], [(5, [(6, .sl), (19, (.int .i64))])], []⟩) Tryz.func33 (by kernel_rfl) h


/-- (*penstock/replica.Replica).Accept -/
def S_replica_Replica_Accept (R : Value → World → Prop) (x0 : Option Addr) (x1 : Value) (w : World) : Prop :=
 RunK .addr P (Instr.box T_api_FetchReply x1) w fun (a0 : Addr) w1 =>
 JoinP (T := Unit) (fun J2 =>
 ifB (Option.isNone x0)
 (R (.int .i64 5) w1)
 (nilCk x0 fun (a5 : Addr) =>
 RunQ .bool P (Instr.loadAt T_bool (.pointer (some (a5.add 6)))) w1.drew fun (b6 : Bool) =>
 ifB b6
 (R (.int .i64 12) w1.drew)
 (RunQ (.int .i64) P (Instr.loadAt T_int (.pointer (some (Go.Addr.add a0 1)))) w1.drew fun (n7 : Int) =>
 nilCk x0 fun (a8 : Addr) =>
 RunQ (.int .i64) P (Instr.loadAt T_int (.pointer (some (a8.add 5)))) w1.drew fun (n9 : Int) =>
 ifB (n7 != n9)
 (R (.int .i64 12) w1.drew)
 (RunQ (.int .i64) P (Instr.loadAt T_int (.pointer (some (Go.Addr.add a0 0)))) w1.drew fun (n10 : Int) =>
 nilCk x0 fun (a11 : Addr) =>
 RunQ (.int .i64) P (Instr.loadAt T_int (.pointer (some (a11.add 0)))) w1.drew fun (n12 : Int) =>
 ifB (n10 != n12)
 (R (.int .i64 12) w1.drew)
 (RunQ (.int .i64) P (Instr.loadAt T_api_Errno (.pointer (some (Go.Addr.add a0 2)))) w1.drew fun (n13 : Int) =>
 ifB (n13 != 0)
 (RunQ (.int .i64) P (Instr.loadAt T_api_Errno (.pointer (some (Go.Addr.add a0 2)))) w1.drew fun (n14 : Int) =>
 R (.int .i64 n14) w1.drew)
 (RunQ .bool P (Instr.loadAt T_bool (.pointer (some (Go.Addr.add a0 4)))) w1.drew fun (b15 : Bool) =>
 ifB b15
 (RunQ .val P (Instr.loadAt T_api_FetchReply (.pointer (some a0))) w1.drew fun (v16 : Value) =>
 CallP P F_replica_Replica_cut [(.pointer x0), v16] w1.drew fun (v17 : Value) w18 =>
 TyP (.int .i64) v17 fun (n19 : Int) =>
 R (.int .i64 n19) w18)
 (J2 (some ()) w1.drew)))))))
 fun t3 w4 =>
 RunQ .sl P (Instr.loadAt T_sl_api_Batch (.pointer (some (Go.Addr.add a0 9)))) w4 fun (s20 : Sl) =>
 LoopP (T := Int × Unit) (some (0, ())) w4 fun next21 t22 w23 =>
 ifB (decide (t22.fst < (↑s20.len : Int)))
 (RunQ .addr P (Instr.indexAt T_sl_api_Batch s20.v (.int .i64 t22.fst)) w23 fun (a24 : Addr) =>
 RunQ .val P (Instr.loadAt T_api_Batch (.pointer (some a24))) w23 fun (v25 : Value) =>
 RunK .addr P (Instr.alloc T_api_Batch true (.tuple #[])) w23 fun (a26 : Addr) w27 =>
 StoreP P T_api_Batch (.pointer (some a26)) v25 w27 fun w28 =>
 ∃ S29 : World → Prop, (S29 w28.drew) ∧
 HRun S29 (.int .i64) P (Instr.loadAt T_int (.pointer (some (Go.Addr.add a26 0)))) fun (n30 : Int) =>
 nilCk x0 fun (a31 : Addr) =>
 HRun S29 .ptr P (Instr.loadAt T_p_seglog_Log (.pointer (some (a31.add 2)))) fun (p32 : Option Addr) =>
 CallP P F_seglog_Log_End [(.pointer p32)] w28.drew fun (v33 : Value) w34 =>
 TyP (.int .i64) v33 fun (n35 : Int) =>
 (S29 w34) ∧
 ifB (decide (n30 < n35))
 (next21 (some ((IntKind.i64.wrap (t22.fst + 1)), ())) w34)
 (∃ S36 : World → Prop, (S36 w34.drew) ∧
 nilCk x0 fun (a37 : Addr) =>
 HRun S36 .ptr P (Instr.loadAt T_p_seglog_Log (.pointer (some (a37.add 2)))) fun (p38 : Option Addr) =>
 HRun S36 .val P (Instr.loadAt T_api_Batch (.pointer (some a26))) fun (v39 : Value) =>
 CallP P F_seglog_Log_Put [(.pointer p38), v39] w34.drew fun (v40 : Value) w41 =>
 TyP (.int .i64) v40 fun (n42 : Int) =>
 (S36 w41) ∧
 ifB (n42 != 0)
 (nilCk x0 fun (a43 : Addr) =>
 RunQ .ptr P (Instr.loadAt T_p_seglog_Log (.pointer (some (a43.add 2)))) w41 fun (p44 : Option Addr) =>
 CallP P F_seglog_Log_Flush [(.pointer p44)] w41 fun (v45 : Value) w46 =>
 TyP (.int .i64) v45 fun (n47 : Int) =>
 R (.int .i64 n42) w46)
 (RunQ .val P (Instr.loadAt T_api_Batch (.pointer (some a26))) w41 fun (v48 : Value) =>
 CallP P F_replica_Replica_note [(.pointer x0), v48] w41 fun (v49 : Value) w50 =>
 TupP [] v49 fun (t51 : Unit) =>
 next21 (some ((IntKind.i64.wrap (t22.fst + 1)), ())) w50)))
 (nilCk x0 fun (a52 : Addr) =>
 RunQ .ptr P (Instr.loadAt T_p_seglog_Log (.pointer (some (a52.add 2)))) w23 fun (p53 : Option Addr) =>
 CallP P F_seglog_Log_Flush [(.pointer p53)] w23 fun (v54 : Value) w55 =>
 TyP (.int .i64) v54 fun (n56 : Int) =>
 ifB (n56 != 0)
 (R (.int .i64 n56) w55)
 (∃ S57 : World → Prop, (S57 w55.drew) ∧
 nilCk x0 fun (a58 : Addr) =>
 HRun S57 (.int .i64) P (Instr.loadAt T_int (.pointer (some (Go.Addr.add a0 3)))) fun (n59 : Int) =>
 nilCk x0 fun (a60 : Addr) =>
 HRun S57 .ptr P (Instr.loadAt T_p_seglog_Log (.pointer (some (a60.add 2)))) fun (p61 : Option Addr) =>
 (RunQ (.int .i64) P (Instr.loadAt T_int (.pointer (some (a58.add 8)))) w55.drew fun (n62 : Int) =>
 (S57 w55.drew) ∧
 CallP P F_seglog_Log_End [(.pointer p61)] w55.drew fun (v63 : Value) w64 =>
 TyP (.int .i64) v63 fun (n65 : Int) =>
 (S57 w64) ∧
 nilCk x0 fun (a66 : Addr) =>
 StoreP P T_int (.pointer (some (a66.add 8))) (.int .i64 (if (if n65 < n59 then n65 else n59) > n62 then if n65 < n59 then n65 else n59 else n62)) w64 fun w67 =>
 (S57 w67) ∧
 R (.int .i64 0) w67) ∧
 (CallP P F_seglog_Log_End [(.pointer p61)] w55.drew fun (v68 : Value) w69 =>
 TyP (.int .i64) v68 fun (n70 : Int) =>
 (S57 w69) ∧
 RunQ (.int .i64) P (Instr.loadAt T_int (.pointer (some (a58.add 8)))) w69 fun (n71 : Int) =>
 (S57 w69) ∧
 nilCk x0 fun (a72 : Addr) =>
 StoreP P T_int (.pointer (some (a72.add 8))) (.int .i64 (if (if n70 < n59 then n70 else n59) > n71 then if n70 < n59 then n70 else n59 else n71)) w69 fun w73 =>
 (S57 w73) ∧
 R (.int .i64 0) w73) ∧
 True))
theorem c_replica_Replica_Accept {R : Value → World → Prop} {x0 : Option Addr} {x1 : Value} {w : World} (h : S_replica_Replica_Accept R x0 x1 w) : CallP P F_replica_Replica_Accept [.pointer x0, x1] w R := mkC (an := ⟨[(9, [])], [(10, [(50, (.int .i64))])], [22]⟩) Tryz.func34 (by kernel_rfl) h


/-- (*penstock/replica.Replica).Tick -/
def S_replica_Replica_Tick (R : Value → World → Prop) (x0 : Option Addr) (w : World) : Prop :=
 JoinP (T := Unit) (fun J0 =>
 ifB (Option.isNone x0)
 (R (.tuple #[]) w)
 (nilCk x0 fun (a3 : Addr) =>
 RunQ .bool P (Instr.loadAt T_bool (.pointer (some (a3.add 6)))) w fun (b4 : Bool) =>
 ifB (!b4)
 (R (.tuple #[]) w)
 (J0 (some ()) w)))
 fun t1 w2 =>
 nilCk x0 fun (a5 : Addr) =>
 RunQ .map P (Instr.loadAt T_map_int_p_replica_peer (.pointer (some (a5.add 11)))) w2 fun (m6 : Option Nat) =>
 RunK .addr P (Instr.range T_map_int_p_replica_peer (.map m6)) w2 fun (a7 : Addr) w8 =>
 LoopP (T := Unit) (some ()) w8 fun next9 t10 w11 =>
 NextP P (Instr.next (.pointer (some a7)) false 0) w11 (fun w15 =>
 nilCk x0 fun (a16 : Addr) =>
 RunQ .sl P (Instr.loadAt T_sl_int (.pointer (some (a16.add 9)))) w15 fun (s17 : Sl) =>
 LoopP (T := Int × Unit) (some (0, ())) w15 fun next18 t19 w20 =>
 ifB (decide (t19.fst < (↑s17.len : Int)))
 (RunQ .addr P (Instr.indexAt T_sl_int s17.v (.int .i64 t19.fst)) w20 fun (a21 : Addr) =>
 RunQ (.int .i64) P (Instr.loadAt T_int (.pointer (some a21))) w20 fun (n22 : Int) =>
 nilCk x0 fun (a23 : Addr) =>
 RunQ (.int .i64) P (Instr.loadAt T_int (.pointer (some (a23.add 1)))) w20 fun (n24 : Int) =>
 ifB (n22 != n24)
 (nilCk x0 fun (a25 : Addr) =>
 RunQ .map P (Instr.loadAt T_map_int_p_replica_peer (.pointer (some (a25.add 11)))) w20 fun (m26 : Option Nat) =>
 RunV P (Instr.lookup T_map_int_p_replica_peer (.map m26) (.int .i64 n22) false) w20 fun (v27 : Value) w28 =>
 TyP .ptr v27 fun (p29 : Option Addr) =>
 ifB (Option.isNone p29)
 (nilCk x0 fun (a30 : Addr) =>
 RunQ .map P (Instr.loadAt T_map_int_p_replica_peer (.pointer (some (a30.add 11)))) w28 fun (m31 : Option Nat) =>
 RunK .addr P (Instr.box T_replica_peer (.agg #[(.int .i64 (-1)), (.int .i64 0)])) w28 fun (a32 : Addr) w33 =>
 RunU P (Instr.mapUpdate T_map_int_p_replica_peer (.map m31) (.int .i64 n22) (.pointer (some a32))) w33 fun w34 =>
 next18 (some ((IntKind.i64.wrap (t19.fst + 1)), ())) w34)
 (next18 (some ((IntKind.i64.wrap (t19.fst + 1)), ())) w28))
 (next18 (some ((IntKind.i64.wrap (t19.fst + 1)), ())) w20))
 (R (.tuple #[]) w20)) fun (v12 v13 : Value) w14 =>
 TyP .val v12 fun (v35 : Value) =>
 TyP .val v13 fun (v36 : Value) =>
 RunV P (Instr.entry (.pointer (some a7))) w14 fun (v37 : Value) w38 =>
 EntP (.val, .ptr) v37 fun (v39 : Value) (p40 : Option Addr) =>
 nilCk p40 fun (a41 : Addr) =>
 RunQ (.int .i64) P (Instr.loadAt T_int (.pointer (some (a41.add 1)))) w38 fun (n42 : Int) =>
 nilCk p40 fun (a43 : Addr) =>
 StoreP P T_int (.pointer (some (a43.add 1))) (.int .i64 (IntKind.i64.wrap (n42 + 1))) w38 fun w44 =>
 next9 (some ()) w44
theorem c_replica_Replica_Tick {R : Value → World → Prop} {x0 : Option Addr} {w : World} (h : S_replica_Replica_Tick R x0 w) : CallP P F_replica_Replica_Tick [.pointer x0] w R := mkC (an := ⟨[(1, [])], [(2, []), (6, [(36, (.int .i64))])], []⟩) Tryz.func40 (by kernel_rfl) h


/-- (*penstock/replica.Replica).Asked -/
def S_replica_Replica_Asked (R : Value → World → Prop) (x0 : Option Addr) (x1 : Sl) (w : World) : Prop :=
 ifB (!Option.isNone x0)
 (nilCk x0 fun (a0 : Addr) =>
 RunQ .bool P (Instr.loadAt T_bool (.pointer (some (a0.add 6)))) w fun (b1 : Bool) =>
 ifB b1
 (nilCk x0 fun (a2 : Addr) =>
 RunQ .sl P (Instr.loadAt T_sl_int (.pointer (some (a2.add 10)))) w fun (s3 : Sl) =>
 RunK .sl P (Builtin.append_ #[T_sl_int, T_sl_int] T_sl_int #[s3.v, x1.v]) w fun (s4 : Sl) w5 =>
 nilCk x0 fun (a6 : Addr) =>
 StoreP P T_sl_int (.pointer (some (a6.add 10))) s4.v w5 fun w7 =>
 R (.tuple #[]) w7)
 (R (.tuple #[]) w))
 (R (.tuple #[]) w)
theorem c_replica_Replica_Asked {R : Value → World → Prop} {x0 : Option Addr} {x1 : Sl} {w : World} (h : S_replica_Replica_Asked R x0 x1 w) : CallP P F_replica_Replica_Asked [.pointer x0, x1.v] w R := mkC (an := ⟨[], [], []⟩) Tryz.func41 (by kernel_rfl) h


/-- (*penstock/replica.Replica).learn -/
def S_replica_Replica_learn (R : Value → World → Prop) (x0 : Option Addr) (w : World) : Prop :=
 CallP P F_prod_New [] w fun (v0 : Value) w1 =>
 TyP .ptr v0 fun (p2 : Option Addr) =>
 CallP P F_epochs_New [] w1 fun (v3 : Value) w4 =>
 TyP .ptr v3 fun (p5 : Option Addr) =>
 nilCk x0 fun (a6 : Addr) =>
 StoreP P T_p_prod_Table (.pointer (some (a6.add 3))) (.pointer p2) w4 fun w7 =>
 nilCk x0 fun (a8 : Addr) =>
 StoreP P T_p_epochs_Cache (.pointer (some (a8.add 4))) (.pointer p5) w7 fun w9 =>
 nilCk x0 fun (a10 : Addr) =>
 RunQ .ptr P (Instr.loadAt T_p_seglog_Log (.pointer (some (a10.add 2)))) w9 fun (p11 : Option Addr) =>
 CallP P F_seglog_Log_Read [(.pointer p11), (.int .i64 0), (.int .i64 4194304)] w9 fun (v12 : Value) w13 =>
 TyP .sl v12 fun (s14 : Sl) =>
 LoopP (T := Int × Unit) (some (0, ())) w13 fun next15 t16 w17 =>
 ifB (decide (t16.fst < (↑s14.len : Int)))
 (RunQ .addr P (Instr.indexAt T_sl_api_Batch s14.v (.int .i64 t16.fst)) w17 fun (a18 : Addr) =>
 RunQ .val P (Instr.loadAt T_api_Batch (.pointer (some a18))) w17 fun (v19 : Value) =>
 RunK .addr P (Instr.alloc T_api_Batch true (.tuple #[])) w17 fun (a20 : Addr) w21 =>
 StoreP P T_api_Batch (.pointer (some a20)) v19 w21 fun w22 =>
 RunQ .val P (Instr.loadAt T_api_Batch (.pointer (some a20))) w22 fun (v23 : Value) =>
 CallP P F_replica_Replica_note [(.pointer x0), v23] w22 fun (v24 : Value) w25 =>
 TupP [] v24 fun (t26 : Unit) =>
 next15 (some ((IntKind.i64.wrap (t16.fst + 1)), ())) w25)
 (R (.tuple #[]) w17)
theorem c_replica_Replica_learn {R : Value → World → Prop} {x0 : Option Addr} {w : World} (h : S_replica_Replica_learn R x0 w) : CallP P F_replica_Replica_learn [.pointer x0] w R := mkC (an := ⟨[], [(2, [(18, (.int .i64))])], []⟩) Tryz.func43 (by kernel_rfl) h


/-- slices.Clone[[]int,int] -/
def S_slices_Clone_int_int (R : Value → World → Prop) (x0 : Sl) (w : World) : Prop :=
 ifB x0.a.isNone
 (R (.slice none 0 0) w)
 (RunK .sl P (Instr.buildSlice T_sl_int 0 #[]) w fun (s0 : Sl) w1 =>
 RunK .sl P (Builtin.append_ #[T_sl_int, T_sl_int] T_sl_int #[s0.v, x0.v]) w1 fun (s2 : Sl) w3 =>
 R s2.v w3)
theorem c_slices_Clone_int_int {R : Value → World → Prop} {x0 : Sl} {w : World} (h : S_slices_Clone_int_int R x0 w) : CallP P F_slices_Clone_int_int [x0.v] w R := mkC (an := ⟨[], [], []⟩) Tryz.func46 (by kernel_rfl) h


/-- (*penstock/replica.Replica).rise -/
def S_replica_Replica_rise (R : Value → World → Prop) (x0 : Option Addr) (w : World) : Prop :=
 nilCk x0 fun (a0 : Addr) =>
 RunQ .ptr P (Instr.loadAt T_p_seglog_Log (.pointer (some (a0.add 2)))) w fun (p1 : Option Addr) =>
 CallP P F_seglog_Log_Synced [(.pointer p1)] w fun (v2 : Value) w3 =>
 TyP (.int .i64) v2 fun (n4 : Int) =>
 ∃ S5 : World → Prop, (S5 w3.drew) ∧
 nilCk x0 fun (a6 : Addr) =>
 HRun S5 .sl P (Instr.loadAt T_sl_int (.pointer (some (a6.add 9)))) fun (s7 : Sl) =>
 nilCk x0 fun (a8 : Addr) =>
 HRun S5 .sl P (Instr.loadAt T_sl_int (.pointer (some (a8.add 10)))) fun (s9 : Sl) =>
 CallP P F_slices_Clone_int_int [s7.v] w3.drew fun (v10 : Value) w11 =>
 TyP .sl v10 fun (s12 : Sl) =>
 (S5 w11) ∧
 RunK .sl P (Builtin.append_ #[T_sl_int, T_sl_int] T_sl_int #[s12.v, s9.v]) w11 fun (s13 : Sl) w14 =>
 (S5 w14) ∧
 LoopP (T := Int × Int × Unit) (some (n4, (0, ()))) w14 fun next15 t16 w17 =>
 ifB (decide (t16.snd.fst < (↑s13.len : Int)))
 (RunQ .addr P (Instr.indexAt T_sl_int s13.v (.int .i64 t16.snd.fst)) w17 fun (a18 : Addr) =>
 RunQ (.int .i64) P (Instr.loadAt T_int (.pointer (some a18))) w17 fun (n19 : Int) =>
 CallP P F_replica_Replica_place [(.pointer x0), (.int .i64 n19)] w17 fun (v20 : Value) w21 =>
 TyP (.int .i64) v20 fun (n22 : Int) =>
 next15 (some ((if n22 < t16.fst then n22 else t16.fst), ((IntKind.i64.wrap (t16.snd.fst + 1)), ()))) w21)
 (nilCk x0 fun (a23 : Addr) =>
 RunQ (.int .i64) P (Instr.loadAt T_int (.pointer (some (a23.add 8)))) w17 fun (n24 : Int) =>
 nilCk x0 fun (a25 : Addr) =>
 StoreP P T_int (.pointer (some (a25.add 8))) (.int .i64 (if t16.fst > n24 then t16.fst else n24)) w17 fun w26 =>
 R (.tuple #[]) w26)
theorem c_replica_Replica_rise {R : Value → World → Prop} {x0 : Option Addr} {w : World} (h : S_replica_Replica_rise R x0 w) : CallP P F_replica_Replica_rise [.pointer x0] w R := mkC (an := ⟨[], [(2, [(2, (.int .i64)), (21, (.int .i64))])], []⟩) Tryz.func47 (by kernel_rfl) h


/-- (*penstock/prod.Table).Check -/
def S_prod_Table_Check (R : Value → World → Prop) (x0 : Option Addr) (x1 : Value) (w : World) : Prop :=
 RunK .addr P (Instr.box T_api_Batch x1) w fun (a0 : Addr) w1 =>
 ifB (Option.isNone x0)
 (R (.tuple #[(.int .i64 0), (.bool false), (.int .i64 5)]) w1)
 (RunQ .val P (Instr.loadAt T_api_Batch (.pointer (some a0))) w1 fun (v2 : Value) =>
 CallP P F_batch_Check [v2] w1 fun (v3 : Value) w4 =>
 TyP (.int .i64) v3 fun (n5 : Int) =>
 ifB (n5 != 0)
 (R (.tuple #[(.int .i64 0), (.bool false), (.int .i64 n5)]) w4)
 (∃ S6 : World → Prop, (S6 w4.drew) ∧
 nilCk x0 fun (a7 : Addr) =>
 HRun S6 .map P (Instr.loadAt T_map_uint64_p_prod_producer (.pointer (some (a7.add 0)))) fun (m8 : Option Nat) =>
 HRun S6 (.int .u64) P (Instr.loadAt T_uint64 (.pointer (some (Go.Addr.add a0 2)))) fun (n9 : Int) =>
 RunV P (Instr.lookup T_map_uint64_p_prod_producer (.map m8) (.int .u64 n9) false) w4.drew fun (v10 : Value) w11 =>
 TyP .ptr v10 fun (p12 : Option Addr) =>
 (S6 w11) ∧
 JoinP (T := Unit) (fun J13 =>
 RunQ (.int .u64) P (Instr.loadAt T_uint64 (.pointer (some (Go.Addr.add a0 2)))) w11 fun (n16 : Int) =>
 ifB (n16 == 0)
 (R (.tuple #[(.int .i64 0), (.bool false), (.int .i64 0)]) w11)
 (ifB (!Option.isNone p12)
 (RunQ (.int .i64) P (Instr.loadAt T_int (.pointer (some (Go.Addr.add a0 3)))) w11.drew fun (n17 : Int) =>
 nilCk p12 fun (a18 : Addr) =>
 RunQ (.int .i64) P (Instr.loadAt T_int (.pointer (some (a18.add 0)))) w11.drew fun (n19 : Int) =>
 ifB (decide (n17 < n19))
 (R (.tuple #[(.int .i64 0), (.bool false), (.int .i64 10)]) w11.drew)
 (RunQ .bool P (Instr.loadAt T_bool (.pointer (some (Go.Addr.add a0 6)))) w11.drew fun (b20 : Bool) =>
 ifB b20
 (R (.tuple #[(.int .i64 0), (.bool false), (.int .i64 0)]) w11.drew)
 (ifB (Option.isNone p12)
 (RunQ (.int .i64) P (Instr.loadAt T_int (.pointer (some (Go.Addr.add a0 4)))) w11.drew.drew fun (n21 : Int) =>
 ifB (n21 != 0)
 (R (.tuple #[(.int .i64 0), (.bool false), (.int .i64 11)]) w11.drew.drew)
 (R (.tuple #[(.int .i64 0), (.bool false), (.int .i64 0)]) w11.drew.drew))
 (RunQ (.int .i64) P (Instr.loadAt T_int (.pointer (some (Go.Addr.add a0 3)))) w11.drew.drew fun (n22 : Int) =>
 nilCk p12 fun (a23 : Addr) =>
 RunQ (.int .i64) P (Instr.loadAt T_int (.pointer (some (a23.add 0)))) w11.drew.drew fun (n24 : Int) =>
 ifB (decide (n22 > n24))
 (RunQ (.int .i64) P (Instr.loadAt T_int (.pointer (some (Go.Addr.add a0 4)))) w11.drew.drew fun (n25 : Int) =>
 ifB (n25 != 0)
 (R (.tuple #[(.int .i64 0), (.bool false), (.int .i64 11)]) w11.drew.drew)
 (R (.tuple #[(.int .i64 0), (.bool false), (.int .i64 0)]) w11.drew.drew))
 (J13 (some ()) w11.drew.drew)))))
 (RunQ .bool P (Instr.loadAt T_bool (.pointer (some (Go.Addr.add a0 6)))) w11.drew fun (b26 : Bool) =>
 ifB b26
 (R (.tuple #[(.int .i64 0), (.bool false), (.int .i64 0)]) w11.drew)
 (ifB (Option.isNone p12)
 (RunQ (.int .i64) P (Instr.loadAt T_int (.pointer (some (Go.Addr.add a0 4)))) w11.drew.drew fun (n27 : Int) =>
 ifB (n27 != 0)
 (R (.tuple #[(.int .i64 0), (.bool false), (.int .i64 11)]) w11.drew.drew)
 (R (.tuple #[(.int .i64 0), (.bool false), (.int .i64 0)]) w11.drew.drew))
 (RunQ (.int .i64) P (Instr.loadAt T_int (.pointer (some (Go.Addr.add a0 3)))) w11.drew.drew fun (n28 : Int) =>
 nilCk p12 fun (a29 : Addr) =>
 RunQ (.int .i64) P (Instr.loadAt T_int (.pointer (some (a29.add 0)))) w11.drew.drew fun (n30 : Int) =>
 ifB (decide (n28 > n30))
 (RunQ (.int .i64) P (Instr.loadAt T_int (.pointer (some (Go.Addr.add a0 4)))) w11.drew.drew fun (n31 : Int) =>
 ifB (n31 != 0)
 (R (.tuple #[(.int .i64 0), (.bool false), (.int .i64 11)]) w11.drew.drew)
 (R (.tuple #[(.int .i64 0), (.bool false), (.int .i64 0)]) w11.drew.drew))
 (J13 (some ()) w11.drew.drew))))))
 fun t14 w15 =>
 nilCk p12 fun (a32 : Addr) =>
 RunQ .sl P (Instr.loadAt T_sl_prod_seen (.pointer (some (a32.add 2)))) w15 fun (s33 : Sl) =>
 LoopP (T := Int × Unit) (some (0, ())) w15 fun next34 t35 w36 =>
 ifB (decide (t35.fst < (↑s33.len : Int)))
 (RunQ .addr P (Instr.indexAt T_sl_prod_seen s33.v (.int .i64 t35.fst)) w36 fun (a37 : Addr) =>
 RunQ .val P (Instr.loadAt T_prod_seen (.pointer (some a37))) w36 fun (v38 : Value) =>
 RunK .addr P (Instr.alloc T_prod_seen true (.tuple #[])) w36 fun (a39 : Addr) w40 =>
 StoreP P T_prod_seen (.pointer (some a39)) v38 w40 fun w41 =>
 ∃ S42 : World → Prop, (S42 w41.drew) ∧
 HRun S42 .val P (Instr.loadAt T_prod_key (.pointer (some (Go.Addr.add a39 0)))) fun (v43 : Value) =>
 HRun S42 (.int .i64) P (Instr.loadAt T_int (.pointer (some (Go.Addr.add a0 4)))) fun (n44 : Int) =>
 HRun S42 .val P (Instr.loadAt T_api_Batch (.pointer (some a0))) fun (v45 : Value) =>
 CallP P F_batch_Size [v45] w41.drew fun (v46 : Value) w47 =>
 TyP (.int .i64) v46 fun (n48 : Int) =>
 (S42 w47) ∧
 HRun S42 .bool P (do (eqGuard .eql T_prod_key (.tmp 0) (.tmp 0) v43 (.agg #[(.int .i64 n44), (.int .i64 n48)])); (binOp .eql T_prod_key v43 (.agg #[(.int .i64 n44), (.int .i64 n48)]))) fun (b49 : Bool) =>
 ifB b49
 (RunQ (.int .i64) P (Instr.loadAt T_int (.pointer (some (Go.Addr.add a39 2)))) w47 fun (n50 : Int) =>
 R (.tuple #[(.int .i64 n50), (.bool true), (.int .i64 0)]) w47)
 (next34 (some ((IntKind.i64.wrap (t35.fst + 1)), ())) w47))
 (RunQ (.int .i64) P (Instr.loadAt T_int (.pointer (some (Go.Addr.add a0 4)))) w36.drew fun (n51 : Int) =>
 nilCk p12 fun (a52 : Addr) =>
 RunQ (.int .i64) P (Instr.loadAt T_int (.pointer (some (a52.add 1)))) w36.drew fun (n53 : Int) =>
 ifB (n51 != n53)
 (R (.tuple #[(.int .i64 0), (.bool false), (.int .i64 11)]) w36.drew)
 (R (.tuple #[(.int .i64 0), (.bool false), (.int .i64 0)]) w36.drew))))
theorem c_prod_Table_Check {R : Value → World → Prop} {x0 : Option Addr} {x1 : Value} {w : World} (h : S_prod_Table_Check R x0 x1 w) : CallP P F_prod_Table_Check [.pointer x0, x1] w R := mkC (an := ⟨[(17, [])], [(18, [(64, (.int .i64))])], []⟩) Tryz.func51 (by kernel_rfl) h


/-- (*penstock/prod.Table).Known -/
def S_prod_Table_Known (R : Value → World → Prop) (x0 : Option Addr) (x1 : Int) (w : World) : Prop :=
 JoinP (T := Unit) (fun J0 =>
 ifB (Option.isNone x0)
 (R (.tuple #[(.int .i64 0), (.int .i64 0), (.int .i64 0), (.bool false)]) w)
 (nilCk x0 fun (a3 : Addr) =>
 RunQ .map P (Instr.loadAt T_map_uint64_p_prod_producer (.pointer (some (a3.add 0)))) w fun (m4 : Option Nat) =>
 RunV P (Instr.lookup T_map_uint64_p_prod_producer (.map m4) (.int .u64 x1) false) w fun (v5 : Value) w6 =>
 TyP .ptr v5 fun (p7 : Option Addr) =>
 ifB (Option.isNone p7)
 (R (.tuple #[(.int .i64 0), (.int .i64 0), (.int .i64 0), (.bool false)]) w6)
 (J0 (some ()) w6)))
 fun t1 w2 =>
 nilCk x0 fun (a8 : Addr) =>
 RunQ .map P (Instr.loadAt T_map_uint64_p_prod_producer (.pointer (some (a8.add 0)))) w2 fun (m9 : Option Nat) =>
 RunV P (Instr.lookup T_map_uint64_p_prod_producer (.map m9) (.int .u64 x1) false) w2 fun (v10 : Value) w11 =>
 TyP .ptr v10 fun (p12 : Option Addr) =>
 nilCk p12 fun (a13 : Addr) =>
 RunQ (.int .i64) P (Instr.loadAt T_int (.pointer (some (a13.add 0)))) w11.drew fun (n14 : Int) =>
 nilCk p12 fun (a15 : Addr) =>
 RunQ (.int .i64) P (Instr.loadAt T_int (.pointer (some (a15.add 1)))) w11.drew fun (n16 : Int) =>
 nilCk p12 fun (a17 : Addr) =>
 RunQ (.int .i64) P (Instr.loadAt T_int (.pointer (some (a17.add 3)))) w11.drew fun (n18 : Int) =>
 R (.tuple #[(.int .i64 n14), (.int .i64 n16), (.int .i64 n18), (.bool true)]) w11.drew
theorem c_prod_Table_Known {R : Value → World → Prop} {x0 : Option Addr} {x1 : Int} {w : World} (h : S_prod_Table_Known R x0 x1 w) : CallP P F_prod_Table_Known [.pointer x0, .int .u64 x1] w R := mkC (an := ⟨[(3, [])], [], []⟩) Tryz.func52 (by kernel_rfl) h


/-- (*penstock/replica.Replica).append -/
def S_replica_Replica_append (R : Value → World → Prop) (x0 : Option Addr) (x1 : Value) (w : World) : Prop :=
 RunK .addr P (Instr.box T_api_Batch x1) w fun (a0 : Addr) w1 =>
 ∃ S2 : World → Prop, (S2 w1.drew) ∧
 nilCk x0 fun (a3 : Addr) =>
 HRun S2 .ptr P (Instr.loadAt T_p_seglog_Log (.pointer (some (a3.add 2)))) fun (p4 : Option Addr) =>
 nilCk x0 fun (a5 : Addr) =>
 HRun S2 (.int .i64) P (Instr.loadAt T_int (.pointer (some (a5.add 5)))) fun (n6 : Int) =>
 CallP P F_seglog_Log_End [(.pointer p4)] w1.drew fun (v7 : Value) w8 =>
 TyP (.int .i64) v7 fun (n9 : Int) =>
 (S2 w8) ∧
 StoreP P T_int (.pointer (some (Go.Addr.add a0 0))) (.int .i64 n9) w8 fun w10 =>
 (S2 w10) ∧
 StoreP P T_int (.pointer (some (Go.Addr.add a0 1))) (.int .i64 n6) w10 fun w11 =>
 (S2 w11) ∧
 ∃ S12 : World → Prop, (S12 w11.drew) ∧
 nilCk x0 fun (a13 : Addr) =>
 HRun S12 .ptr P (Instr.loadAt T_p_seglog_Log (.pointer (some (a13.add 2)))) fun (p14 : Option Addr) =>
 HRun S12 .val P (Instr.loadAt T_api_Batch (.pointer (some a0))) fun (v15 : Value) =>
 CallP P F_seglog_Log_Put [(.pointer p14), v15] w11.drew fun (v16 : Value) w17 =>
 TyP (.int .i64) v16 fun (n18 : Int) =>
 (S12 w17) ∧
 ifB (n18 != 0)
 (R (.tuple #[(.int .i64 0), (.int .i64 n18)]) w17)
 (nilCk x0 fun (a19 : Addr) =>
 RunQ .ptr P (Instr.loadAt T_p_seglog_Log (.pointer (some (a19.add 2)))) w17 fun (p20 : Option Addr) =>
 CallP P F_seglog_Log_Flush [(.pointer p20)] w17 fun (v21 : Value) w22 =>
 TyP (.int .i64) v21 fun (n23 : Int) =>
 ifB (n23 != 0)
 (R (.tuple #[(.int .i64 0), (.int .i64 n23)]) w22)
 (RunQ .val P (Instr.loadAt T_api_Batch (.pointer (some a0))) w22 fun (v24 : Value) =>
 CallP P F_replica_Replica_note [(.pointer x0), v24] w22 fun (v25 : Value) w26 =>
 TupP [] v25 fun (t27 : Unit) =>
 CallP P F_replica_Replica_rise [(.pointer x0)] w26 fun (v28 : Value) w29 =>
 TupP [] v28 fun (t30 : Unit) =>
 RunQ (.int .i64) P (Instr.loadAt T_int (.pointer (some (Go.Addr.add a0 0)))) w29 fun (n31 : Int) =>
 R (.tuple #[(.int .i64 n31), (.int .i64 0)]) w29))
theorem c_replica_Replica_append {R : Value → World → Prop} {x0 : Option Addr} {x1 : Value} {w : World} (h : S_replica_Replica_append R x0 x1 w) : CallP P F_replica_Replica_append [.pointer x0, x1] w R := mkC (an := ⟨[], [], []⟩) Tryz.func53 (by kernel_rfl) h


/-- (*penstock/replica.Replica).stable -/
def S_replica_Replica_stable (R : Value → World → Prop) (x0 : Option Addr) (w : World) : Prop :=
 CallP P F_prod_New [] w fun (v0 : Value) w1 =>
 TyP .ptr v0 fun (p2 : Option Addr) =>
 nilCk x0 fun (a3 : Addr) =>
 RunQ .ptr P (Instr.loadAt T_p_seglog_Log (.pointer (some (a3.add 2)))) w1 fun (p4 : Option Addr) =>
 CallP P F_seglog_Log_Read [(.pointer p4), (.int .i64 0), (.int .i64 4194304)] w1 fun (v5 : Value) w6 =>
 TyP .sl v5 fun (s7 : Sl) =>
 LoopP (T := Int × Unit) (some (0, ())) w6 fun next8 t9 w10 =>
 ifB (decide (t9.fst < (↑s7.len : Int)))
 (RunQ .addr P (Instr.indexAt T_sl_api_Batch s7.v (.int .i64 t9.fst)) w10 fun (a11 : Addr) =>
 RunQ .val P (Instr.loadAt T_api_Batch (.pointer (some a11))) w10 fun (v12 : Value) =>
 RunK .addr P (Instr.alloc T_api_Batch true (.tuple #[])) w10 fun (a13 : Addr) w14 =>
 StoreP P T_api_Batch (.pointer (some a13)) v12 w14 fun w15 =>
 ∃ S16 : World → Prop, (S16 w15.drew) ∧
 HRun S16 (.int .i64) P (Instr.loadAt T_int (.pointer (some (Go.Addr.add a13 0)))) fun (n17 : Int) =>
 HRun S16 .val P (Instr.loadAt T_api_Batch (.pointer (some a13))) fun (v18 : Value) =>
 nilCk x0 fun (a19 : Addr) =>
 HRun S16 (.int .i64) P (Instr.loadAt T_int (.pointer (some (a19.add 8)))) fun (n20 : Int) =>
 CallP P F_batch_Size [v18] w15.drew fun (v21 : Value) w22 =>
 TyP (.int .i64) v21 fun (n23 : Int) =>
 (S16 w22) ∧
 ifB (decide (IntKind.i64.wrap (n17 + n23) ≤ n20))
 (RunQ .val P (Instr.loadAt T_api_Batch (.pointer (some a13))) w22 fun (v24 : Value) =>
 CallP P F_prod_Table_Apply [(.pointer p2), v24] w22 fun (v25 : Value) w26 =>
 TupP [] v25 fun (t27 : Unit) =>
 next8 (some ((IntKind.i64.wrap (t9.fst + 1)), ())) w26)
 (next8 (some ((IntKind.i64.wrap (t9.fst + 1)), ())) w22))
 (CallP P F_prod_Table_Unstable [(.pointer p2)] w10 fun (v28 : Value) w29 =>
 TupP [(.int .i64), .bool] v28 fun (t30 : Int × Bool × Unit) =>
 ifB t30.snd.fst
 (R (.int .i64 t30.fst) w29)
 (nilCk x0 fun (a31 : Addr) =>
 RunQ (.int .i64) P (Instr.loadAt T_int (.pointer (some (a31.add 8)))) w29 fun (n32 : Int) =>
 R (.int .i64 n32) w29))
theorem c_replica_Replica_stable {R : Value → World → Prop} {x0 : Option Addr} {w : World} (h : S_replica_Replica_stable R x0 w) : CallP P F_replica_Replica_stable [.pointer x0] w R := mkC (an := ⟨[], [(3, [(15, (.int .i64))])], []⟩) Tryz.func57 (by kernel_rfl) h


/-- (*penstock/epochs.Cache).Last -/
def S_epochs_Cache_Last (R : Value → World → Prop) (x0 : Option Addr) (w : World) : Prop :=
 JoinP (T := Unit) (fun J0 =>
 ifB (Option.isNone x0)
 (R (.tuple #[(.int .i64 0), (.int .i64 0), (.bool false)]) w)
 (nilCk x0 fun (a3 : Addr) =>
 RunQ .sl P (Instr.loadAt T_sl_epochs_start (.pointer (some (a3.add 0)))) w fun (s4 : Sl) =>
 ifB ((↑s4.len : Int) == 0)
 (R (.tuple #[(.int .i64 0), (.int .i64 0), (.bool false)]) w)
 (J0 (some ()) w)))
 fun t1 w2 =>
 ∃ S5 : World → Prop, (S5 w2.drew) ∧
 nilCk x0 fun (a6 : Addr) =>
 HRun S5 .sl P (Instr.loadAt T_sl_epochs_start (.pointer (some (a6.add 0)))) fun (s7 : Sl) =>
 nilCk x0 fun (a8 : Addr) =>
 HRun S5 .sl P (Instr.loadAt T_sl_epochs_start (.pointer (some (a8.add 0)))) fun (s9 : Sl) =>
 HRun S5 .addr P (Instr.indexAt T_sl_epochs_start s7.v (.int .i64 (IntKind.i64.wrap ((↑s9.len : Int) - 1)))) fun (a10 : Addr) =>
 HRun S5 .val P (Instr.loadAt T_epochs_start (.pointer (some a10))) fun (v11 : Value) =>
 RunK .addr P (Instr.alloc T_epochs_start true (.tuple #[])) w2.drew fun (a12 : Addr) w13 =>
 (S5 w13) ∧
 StoreP P T_epochs_start (.pointer (some a12)) v11 w13 fun w14 =>
 (S5 w14) ∧
 RunQ (.int .i64) P (Instr.loadAt T_int (.pointer (some (Go.Addr.add a12 0)))) w14.drew fun (n15 : Int) =>
 RunQ (.int .i64) P (Instr.loadAt T_int (.pointer (some (Go.Addr.add a12 1)))) w14.drew fun (n16 : Int) =>
 R (.tuple #[(.int .i64 n15), (.int .i64 n16), (.bool true)]) w14.drew
theorem c_epochs_Cache_Last {R : Value → World → Prop} {x0 : Option Addr} {w : World} (h : S_epochs_Cache_Last R x0 w) : CallP P F_epochs_Cache_Last [.pointer x0] w R := mkC (an := ⟨[(3, [])], [], []⟩) Tryz.func64 (by kernel_rfl) h


/-- (*penstock/replica.Replica).note -/
def S_replica_Replica_note (R : Value → World → Prop) (x0 : Option Addr) (x1 : Value) (w : World) : Prop :=
 RunK .addr P (Instr.box T_api_Batch x1) w fun (a0 : Addr) w1 =>
 ∃ S2 : World → Prop, (S2 w1.drew) ∧
 nilCk x0 fun (a3 : Addr) =>
 HRun S2 .ptr P (Instr.loadAt T_p_prod_Table (.pointer (some (a3.add 3)))) fun (p4 : Option Addr) =>
 HRun S2 .val P (Instr.loadAt T_api_Batch (.pointer (some a0))) fun (v5 : Value) =>
 CallP P F_prod_Table_Apply [(.pointer p4), v5] w1.drew fun (v6 : Value) w7 =>
 TupP [] v6 fun (t8 : Unit) =>
 (S2 w7) ∧
 ∃ S9 : World → Prop, (S9 w7.drew) ∧
 nilCk x0 fun (a10 : Addr) =>
 HRun S9 .ptr P (Instr.loadAt T_p_epochs_Cache (.pointer (some (a10.add 4)))) fun (p11 : Option Addr) =>
 HRun S9 (.int .i64) P (Instr.loadAt T_int (.pointer (some (Go.Addr.add a0 1)))) fun (n12 : Int) =>
 HRun S9 (.int .i64) P (Instr.loadAt T_int (.pointer (some (Go.Addr.add a0 0)))) fun (n13 : Int) =>
 CallP P F_epochs_Cache_Assign [(.pointer p11), (.int .i64 n12), (.int .i64 n13)] w7.drew fun (v14 : Value) w15 =>
 TyP (.int .i64) v14 fun (n16 : Int) =>
 (S9 w15) ∧
 R (.tuple #[]) w15
theorem c_replica_Replica_note {R : Value → World → Prop} {x0 : Option Addr} {x1 : Value} {w : World} (h : S_replica_Replica_note R x0 x1 w) : CallP P F_replica_Replica_note [.pointer x0, x1] w R := mkC (an := ⟨[], [], []⟩) Tryz.func72 (by kernel_rfl) h


/-- penstock/prod.New -/
def S_prod_New (R : Value → World → Prop) (w : World) : Prop :=
 RunK .map P (Instr.makeMap T_map_uint64_p_prod_producer none) w fun (m0 : Option Nat) w1 =>
 RunK .addr P (Instr.box T_prod_Table (.agg #[(.map m0), (.slice none 0 0)])) w1 fun (a2 : Addr) w3 =>
 R (.pointer (some a2)) w3
theorem c_prod_New {R : Value → World → Prop} {w : World} (h : S_prod_New R  w) : CallP P F_prod_New [] w R := mkC (an := ⟨[], [], []⟩) Tryz.func88 (by kernel_rfl) h


/-- penstock/epochs.New -/
def S_epochs_New (R : Value → World → Prop) (w : World) : Prop :=
 RunK .addr P (Instr.box T_epochs_Cache (.agg #[(.slice none 0 0)])) w fun (a0 : Addr) w1 =>
 R (.pointer (some a0)) w1
theorem c_epochs_New {R : Value → World → Prop} {w : World} (h : S_epochs_New R  w) : CallP P F_epochs_New [] w R := mkC (an := ⟨[], [], []⟩) Tryz.func89 (by kernel_rfl) h


/-- (*penstock/replica.Replica).place -/
def S_replica_Replica_place (R : Value → World → Prop) (x0 : Option Addr) (x1 : Int) (w : World) : Prop :=
 nilCk x0 fun (a0 : Addr) =>
 RunQ (.int .i64) P (Instr.loadAt T_int (.pointer (some (a0.add 1)))) w fun (n1 : Int) =>
 ifB (x1 == n1)
 (nilCk x0 fun (a2 : Addr) =>
 RunQ .ptr P (Instr.loadAt T_p_seglog_Log (.pointer (some (a2.add 2)))) w fun (p3 : Option Addr) =>
 CallP P F_seglog_Log_Synced [(.pointer p3)] w fun (v4 : Value) w5 =>
 TyP (.int .i64) v4 fun (n6 : Int) =>
 R (.int .i64 n6) w5)
 (nilCk x0 fun (a7 : Addr) =>
 RunQ .map P (Instr.loadAt T_map_int_p_replica_peer (.pointer (some (a7.add 11)))) w fun (m8 : Option Nat) =>
 RunV P (Instr.lookup T_map_int_p_replica_peer (.map m8) (.int .i64 x1) false) w fun (v9 : Value) w10 =>
 TyP .ptr v9 fun (p11 : Option Addr) =>
 ifB (!Option.isNone p11)
 (nilCk p11 fun (a12 : Addr) =>
 RunQ (.int .i64) P (Instr.loadAt T_int (.pointer (some (a12.add 0)))) w10 fun (n13 : Int) =>
 R (.int .i64 n13) w10)
 (R (.int .i64 (-1)) w10))
theorem c_replica_Replica_place {R : Value → World → Prop} {x0 : Option Addr} {x1 : Int} {w : World} (h : S_replica_Replica_place R x0 x1 w) : CallP P F_replica_Replica_place [.pointer x0, .int .i64 x1] w R := mkC (an := ⟨[], [], []⟩) Tryz.func92 (by kernel_rfl) h


/-- (*penstock/prod.Table).Apply -/
def S_prod_Table_Apply (R : Value → World → Prop) (x0 : Option Addr) (x1 : Value) (w : World) : Prop :=
 RunK .addr P (Instr.box T_api_Batch x1) w fun (a0 : Addr) w1 =>
 JoinP (T := Unit) (fun J2 =>
 ifB (Option.isNone x0)
 (R (.tuple #[]) w1)
 (RunQ (.int .u64) P (Instr.loadAt T_uint64 (.pointer (some (Go.Addr.add a0 2)))) w1 fun (n5 : Int) =>
 ifB (n5 == 0)
 (R (.tuple #[]) w1)
 (J2 (some ()) w1)))
 fun t3 w4 =>
 ∃ S6 : World → Prop, (S6 w4.drew) ∧
 nilCk x0 fun (a7 : Addr) =>
 HRun S6 .map P (Instr.loadAt T_map_uint64_p_prod_producer (.pointer (some (a7.add 0)))) fun (m8 : Option Nat) =>
 HRun S6 (.int .u64) P (Instr.loadAt T_uint64 (.pointer (some (Go.Addr.add a0 2)))) fun (n9 : Int) =>
 RunV P (Instr.lookup T_map_uint64_p_prod_producer (.map m8) (.int .u64 n9) false) w4.drew fun (v10 : Value) w11 =>
 TyP .ptr v10 fun (p12 : Option Addr) =>
 (S6 w11) ∧
 JoinP (T := Option Addr × Unit) (fun J13 =>
 ifB (Option.isNone p12)
 (RunQ (.int .i64) P (Instr.loadAt T_int (.pointer (some (Go.Addr.add a0 3)))) w11 fun (n16 : Int) =>
 RunK .addr P (Instr.box T_prod_producer (.agg #[(.int .i64 n16), (.int .i64 0), (.slice none 0 0), (.int .i64 (-1))])) w11 fun (a17 : Addr) w18 =>
 ∃ S19 : World → Prop, (S19 w18.drew) ∧
 nilCk x0 fun (a20 : Addr) =>
 HRun S19 .map P (Instr.loadAt T_map_uint64_p_prod_producer (.pointer (some (a20.add 0)))) fun (m21 : Option Nat) =>
 HRun S19 (.int .u64) P (Instr.loadAt T_uint64 (.pointer (some (Go.Addr.add a0 2)))) fun (n22 : Int) =>
 RunU P (Instr.mapUpdate T_map_uint64_p_prod_producer (.map m21) (.int .u64 n22) (.pointer (some a17))) w18.drew fun w23 =>
 (S19 w23) ∧
 J13 (some ((some a17), ())) w23)
 (J13 (some (p12, ())) w11))
 fun t14 w15 =>
 JoinP (T := Unit) (fun J24 =>
 RunQ (.int .i64) P (Instr.loadAt T_int (.pointer (some (Go.Addr.add a0 3)))) w15.drew fun (n27 : Int) =>
 nilCk t14.fst fun (a28 : Addr) =>
 RunQ (.int .i64) P (Instr.loadAt T_int (.pointer (some (a28.add 0)))) w15.drew fun (n29 : Int) =>
 ifB (decide (n27 > n29))
 (RunQ (.int .i64) P (Instr.loadAt T_int (.pointer (some (Go.Addr.add a0 3)))) w15.drew fun (n30 : Int) =>
 nilCk t14.fst fun (a31 : Addr) =>
 StoreP P T_int (.pointer (some (a31.add 0))) (.int .i64 n30) w15.drew fun w32 =>
 nilCk t14.fst fun (a33 : Addr) =>
 StoreP P T_int (.pointer (some (a33.add 1))) (.int .i64 0) w32 fun w34 =>
 nilCk t14.fst fun (a35 : Addr) =>
 StoreP P T_sl_prod_seen (.pointer (some (a35.add 2))) (.slice none 0 0) w34 fun w36 =>
 J24 (some ()) w36)
 (J24 (some ()) w15.drew))
 fun t25 w26 =>
 RunQ .bool P (Instr.loadAt T_bool (.pointer (some (Go.Addr.add a0 6)))) w26 fun (b37 : Bool) =>
 ifB b37
 (JoinP (T := Unit) (fun J38 =>
 nilCk t14.fst fun (a41 : Addr) =>
 RunQ (.int .i64) P (Instr.loadAt T_int (.pointer (some (a41.add 3)))) w26 fun (n42 : Int) =>
 ifB (decide (n42 ≥ 0))
 (RunQ .bool P (Instr.loadAt T_bool (.pointer (some (Go.Addr.add a0 7)))) w26 fun (b43 : Bool) =>
 ifB (!b43)
 (∃ S44 : World → Prop, (S44 w26.drew) ∧
 nilCk x0 fun (a45 : Addr) =>
 HRun S44 (.int .u64) P (Instr.loadAt T_uint64 (.pointer (some (Go.Addr.add a0 2)))) fun (n46 : Int) =>
 nilCk t14.fst fun (a47 : Addr) =>
 HRun S44 (.int .i64) P (Instr.loadAt T_int (.pointer (some (a47.add 3)))) fun (n48 : Int) =>
 HRun S44 (.int .i64) P (Instr.loadAt T_int (.pointer (some (Go.Addr.add a0 0)))) fun (n49 : Int) =>
 (RunQ .sl P (Instr.loadAt T_sl_api_Abort (.pointer (some (a45.add 1)))) w26.drew fun (s50 : Sl) =>
 (S44 w26.drew) ∧
 RunK .sl P (Instr.buildSlice T_sl_api_Abort 1 #[(0, (.agg #[(.int .u64 n46), (.int .i64 n48), (.int .i64 n49)]))]) w26.drew fun (s51 : Sl) w52 =>
 (S44 w52) ∧
 RunK .sl P (Builtin.append_ #[T_sl_api_Abort, T_sl_api_Abort] T_sl_api_Abort #[s50.v, s51.v]) w52 fun (s53 : Sl) w54 =>
 (S44 w54) ∧
 nilCk x0 fun (a55 : Addr) =>
 StoreP P T_sl_api_Abort (.pointer (some (a55.add 1))) s53.v w54 fun w56 =>
 (S44 w56) ∧
 J38 (some ()) w56) ∧
 (RunK .sl P (Instr.buildSlice T_sl_api_Abort 1 #[(0, (.agg #[(.int .u64 n46), (.int .i64 n48), (.int .i64 n49)]))]) w26.drew fun (s57 : Sl) w58 =>
 (S44 w58) ∧
 RunQ .sl P (Instr.loadAt T_sl_api_Abort (.pointer (some (a45.add 1)))) w58 fun (s59 : Sl) =>
 (S44 w58) ∧
 RunK .sl P (Builtin.append_ #[T_sl_api_Abort, T_sl_api_Abort] T_sl_api_Abort #[s59.v, s57.v]) w58 fun (s60 : Sl) w61 =>
 (S44 w61) ∧
 nilCk x0 fun (a62 : Addr) =>
 StoreP P T_sl_api_Abort (.pointer (some (a62.add 1))) s60.v w61 fun w63 =>
 (S44 w63) ∧
 J38 (some ()) w63) ∧
 True)
 (J38 (some ()) w26))
 (J38 (some ()) w26))
 fun t39 w40 =>
 nilCk t14.fst fun (a64 : Addr) =>
 StoreP P T_int (.pointer (some (a64.add 3))) (.int .i64 (-1)) w40 fun w65 =>
 R (.tuple #[]) w65)
 (∃ S66 : World → Prop, (S66 w26.drew) ∧
 HRun S66 (.int .i64) P (Instr.loadAt T_int (.pointer (some (Go.Addr.add a0 4)))) fun (n67 : Int) =>
 HRun S66 .val P (Instr.loadAt T_api_Batch (.pointer (some a0))) fun (v68 : Value) =>
 CallP P F_batch_Size [v68] w26.drew fun (v69 : Value) w70 =>
 TyP (.int .i64) v69 fun (n71 : Int) =>
 (S66 w70) ∧
 nilCk t14.fst fun (a72 : Addr) =>
 StoreP P T_int (.pointer (some (a72.add 1))) (.int .i64 (IntKind.i64.wrap (n67 + n71))) w70 fun w73 =>
 (S66 w73) ∧
 JoinP (T := Unit) (fun J74 =>
 ∃ S77 : World → Prop, (S77 w73.drew) ∧
 nilCk t14.fst fun (a78 : Addr) =>
 HRun S77 (.int .i64) P (Instr.loadAt T_int (.pointer (some (Go.Addr.add a0 4)))) fun (n79 : Int) =>
 HRun S77 .val P (Instr.loadAt T_api_Batch (.pointer (some a0))) fun (v80 : Value) =>
 HRun S77 (.int .i64) P (Instr.loadAt T_int (.pointer (some (Go.Addr.add a0 0)))) fun (n81 : Int) =>
 (RunQ .sl P (Instr.loadAt T_sl_prod_seen (.pointer (some (a78.add 2)))) w73.drew fun (s82 : Sl) =>
 (S77 w73.drew) ∧
 CallP P F_batch_Size [v80] w73.drew fun (v83 : Value) w84 =>
 TyP (.int .i64) v83 fun (n85 : Int) =>
 (S77 w84) ∧
 HRun S77 .val P (Instr.build T_prod_seen #[(0, (.agg #[(.int .i64 n79), (.int .i64 n85)])), (1, (.int .i64 n81))]) fun (v86 : Value) =>
 RunK .sl P (Instr.buildSlice T_sl_prod_seen 1 #[(0, v86)]) w84 fun (s87 : Sl) w88 =>
 (S77 w88) ∧
 RunK .sl P (Builtin.append_ #[T_sl_prod_seen, T_sl_prod_seen] T_sl_prod_seen #[s82.v, s87.v]) w88 fun (s89 : Sl) w90 =>
 (S77 w90) ∧
 nilCk t14.fst fun (a91 : Addr) =>
 StoreP P T_sl_prod_seen (.pointer (some (a91.add 2))) s89.v w90 fun w92 =>
 (S77 w92) ∧
 J74 (some ()) w92) ∧
 (CallP P F_batch_Size [v80] w73.drew fun (v93 : Value) w94 =>
 TyP (.int .i64) v93 fun (n95 : Int) =>
 (S77 w94) ∧
 HRun S77 .val P (Instr.build T_prod_seen #[(0, (.agg #[(.int .i64 n79), (.int .i64 n95)])), (1, (.int .i64 n81))]) fun (v96 : Value) =>
 (RunQ .sl P (Instr.loadAt T_sl_prod_seen (.pointer (some (a78.add 2)))) w94 fun (s97 : Sl) =>
 (S77 w94) ∧
 RunK .sl P (Instr.buildSlice T_sl_prod_seen 1 #[(0, v96)]) w94 fun (s98 : Sl) w99 =>
 (S77 w99) ∧
 RunK .sl P (Builtin.append_ #[T_sl_prod_seen, T_sl_prod_seen] T_sl_prod_seen #[s97.v, s98.v]) w99 fun (s100 : Sl) w101 =>
 (S77 w101) ∧
 nilCk t14.fst fun (a102 : Addr) =>
 StoreP P T_sl_prod_seen (.pointer (some (a102.add 2))) s100.v w101 fun w103 =>
 (S77 w103) ∧
 J74 (some ()) w103) ∧
 (RunK .sl P (Instr.buildSlice T_sl_prod_seen 1 #[(0, v96)]) w94 fun (s104 : Sl) w105 =>
 (S77 w105) ∧
 RunQ .sl P (Instr.loadAt T_sl_prod_seen (.pointer (some (a78.add 2)))) w105 fun (s106 : Sl) =>
 (S77 w105) ∧
 RunK .sl P (Builtin.append_ #[T_sl_prod_seen, T_sl_prod_seen] T_sl_prod_seen #[s106.v, s104.v]) w105 fun (s107 : Sl) w108 =>
 (S77 w108) ∧
 nilCk t14.fst fun (a109 : Addr) =>
 StoreP P T_sl_prod_seen (.pointer (some (a109.add 2))) s107.v w108 fun w110 =>
 (S77 w110) ∧
 J74 (some ()) w110) ∧
 True) ∧
 True)
 fun t75 w76 =>
 JoinP (T := Unit) (fun J111 =>
 nilCk t14.fst fun (a114 : Addr) =>
 RunQ .sl P (Instr.loadAt T_sl_prod_seen (.pointer (some (a114.add 2)))) w76 fun (s115 : Sl) =>
 ifB (decide ((↑s115.len : Int) > 5))
 (nilCk t14.fst fun (a116 : Addr) =>
 RunQ .sl P (Instr.loadAt T_sl_prod_seen (.pointer (some (a116.add 2)))) w76 fun (s117 : Sl) =>
 RunQ .sl P (Instr.sliceAt T_sl_prod_seen s117.v (some (.int .i64 1)) none none) w76 fun (s118 : Sl) =>
 nilCk t14.fst fun (a119 : Addr) =>
 StoreP P T_sl_prod_seen (.pointer (some (a119.add 2))) s118.v w76 fun w120 =>
 J111 (some ()) w120)
 (J111 (some ()) w76))
 fun t112 w113 =>
 RunQ .bool P (Instr.loadAt T_bool (.pointer (some (Go.Addr.add a0 5)))) w113 fun (b121 : Bool) =>
 ifB b121
 (nilCk t14.fst fun (a122 : Addr) =>
 RunQ (.int .i64) P (Instr.loadAt T_int (.pointer (some (a122.add 3)))) w113 fun (n123 : Int) =>
 ifB (decide (n123 < 0))
 (RunQ (.int .i64) P (Instr.loadAt T_int (.pointer (some (Go.Addr.add a0 0)))) w113 fun (n124 : Int) =>
 nilCk t14.fst fun (a125 : Addr) =>
 StoreP P T_int (.pointer (some (a125.add 3))) (.int .i64 n124) w113 fun w126 =>
 R (.tuple #[]) w126)
 (R (.tuple #[]) w113))
 (R (.tuple #[]) w113))
theorem c_prod_Table_Apply {R : Value → World → Prop} {x0 : Option Addr} {x1 : Value} {w : World} (h : S_prod_Table_Apply R x0 x1 w) : CallP P F_prod_Table_Apply [.pointer x0, x1] w R := mkC (an := ⟨[(11, []), (16, []), (14, []), (8, []), (6, [(4, .ptr)]), (2, [])], [], [10, 13]⟩) Tryz.func97 (by kernel_rfl) h


/-- (*penstock/prod.Table).Unstable -/
def S_prod_Table_Unstable (R : Value → World → Prop) (x0 : Option Addr) (w : World) : Prop :=
 ifB (Option.isNone x0)
 (R (.tuple #[(.int .i64 0), (.bool false)]) w)
 (nilCk x0 fun (a0 : Addr) =>
 RunQ .map P (Instr.loadAt T_map_uint64_p_prod_producer (.pointer (some (a0.add 0)))) w fun (m1 : Option Nat) =>
 RunK .addr P (Instr.range T_map_uint64_p_prod_producer (.map m1)) w fun (a2 : Addr) w3 =>
 LoopP (T := Int × Bool × Unit) (some (0, (false, ()))) w3 fun next4 t5 w6 =>
 NextP P (Instr.next (.pointer (some a2)) false 0) w6 (fun w10 =>
 R (.tuple #[(.int .i64 t5.fst), (.bool t5.snd.fst)]) w10) fun (v7 v8 : Value) w9 =>
 TyP .val v7 fun (v11 : Value) =>
 TyP .val v8 fun (v12 : Value) =>
 RunV P (Instr.entry (.pointer (some a2))) w9 fun (v13 : Value) w14 =>
 EntP (.val, .ptr) v13 fun (v15 : Value) (p16 : Option Addr) =>
 nilCk p16 fun (a17 : Addr) =>
 RunQ (.int .i64) P (Instr.loadAt T_int (.pointer (some (a17.add 3)))) w14 fun (n18 : Int) =>
 ifB (decide (n18 ≥ 0))
 (ifB (!t5.snd.fst)
 (nilCk p16 fun (a19 : Addr) =>
 RunQ (.int .i64) P (Instr.loadAt T_int (.pointer (some (a19.add 3)))) w14 fun (n20 : Int) =>
 next4 (some (n20, (true, ()))) w14)
 (nilCk p16 fun (a21 : Addr) =>
 RunQ (.int .i64) P (Instr.loadAt T_int (.pointer (some (a21.add 3)))) w14 fun (n22 : Int) =>
 ifB (decide (n22 < t5.fst))
 (nilCk p16 fun (a23 : Addr) =>
 RunQ (.int .i64) P (Instr.loadAt T_int (.pointer (some (a23.add 3)))) w14 fun (n24 : Int) =>
 next4 (some (n24, (true, ()))) w14)
 (next4 (some (t5.fst, (t5.snd.fst, ()))) w14)))
 (next4 (some (t5.fst, (t5.snd.fst, ()))) w14))
theorem c_prod_Table_Unstable {R : Value → World → Prop} {x0 : Option Addr} {w : World} (h : S_prod_Table_Unstable R x0 w) : CallP P F_prod_Table_Unstable [.pointer x0] w R := mkC (an := ⟨[], [(5, [(4, (.int .i64)), (5, .bool)])], []⟩) Tryz.func98 (by kernel_rfl) h


/-- (*penstock/epochs.Cache).Assign -/
def S_epochs_Cache_Assign (R : Value → World → Prop) (x0 : Option Addr) (x1 : Int) (x2 : Int) (w : World) : Prop :=
 JoinP (T := Unit) (fun J0 =>
 ifB (Option.isNone x0)
 (R (.int .i64 5) w)
 (ifB (decide (x1 < 0))
 (R (.int .i64 1) w)
 (ifB (decide (x2 < 0))
 (R (.int .i64 1) w)
 (J0 (some ()) w))))
 fun t1 w2 =>
 JoinP (T := Unit) (fun J3 =>
 CallP P F_epochs_Cache_Last [(.pointer x0)] w2 fun (v6 : Value) w7 =>
 TupP [(.int .i64), (.int .i64), .bool] v6 fun (t8 : Int × Int × Bool × Unit) =>
 ifB t8.snd.snd.fst
 (ifB (decide (x1 ≤ t8.fst))
 (ifB (x1 == t8.fst)
 (R (.int .i64 0) w7)
 (R (.int .i64 5) w7))
 (J3 (some ()) w7))
 (J3 (some ()) w7))
 fun t4 w5 =>
 CallP P F_epochs_Cache_Cut [(.pointer x0), (.int .i64 x2)] w5 fun (v9 : Value) w10 =>
 TupP [] v9 fun (t11 : Unit) =>
 nilCk x0 fun (a12 : Addr) =>
 RunQ .sl P (Instr.loadAt T_sl_epochs_start (.pointer (some (a12.add 0)))) w10 fun (s13 : Sl) =>
 RunK .sl P (Instr.buildSlice T_sl_epochs_start 1 #[(0, (.agg #[(.int .i64 x1), (.int .i64 x2)]))]) w10 fun (s14 : Sl) w15 =>
 RunK .sl P (Builtin.append_ #[T_sl_epochs_start, T_sl_epochs_start] T_sl_epochs_start #[s13.v, s14.v]) w15 fun (s16 : Sl) w17 =>
 nilCk x0 fun (a18 : Addr) =>
 StoreP P T_sl_epochs_start (.pointer (some (a18.add 0))) s16.v w17 fun w19 =>
 R (.int .i64 0) w19
theorem c_epochs_Cache_Assign {R : Value → World → Prop} {x0 : Option Addr} {x1 : Int} {x2 : Int} {w : World} (h : S_epochs_Cache_Assign R x0 x1 x2 w) : CallP P F_epochs_Cache_Assign [.pointer x0, .int .i64 x1, .int .i64 x2] w R := mkC (an := ⟨[(10, []), (5, [])], [], []⟩) Tryz.func110 (by kernel_rfl) h


/-- (*penstock/epochs.Cache).Cut -/
def S_epochs_Cache_Cut (R : Value → World → Prop) (x0 : Option Addr) (x1 : Int) (w : World) : Prop :=
 ifB (Option.isNone x0)
 (R (.tuple #[]) w)
 (nilCk x0 fun (a0 : Addr) =>
 RunQ .sl P (Instr.loadAt T_sl_epochs_start (.pointer (some (a0.add 0)))) w fun (s1 : Sl) =>
 LoopP (T := Int × Unit) (some (((↑s1.len : Int)), ())) w fun next2 t3 w4 =>
 ifB (decide (t3.fst > 0))
 (nilCk x0 fun (a5 : Addr) =>
 RunQ .sl P (Instr.loadAt T_sl_epochs_start (.pointer (some (a5.add 0)))) w4 fun (s6 : Sl) =>
 RunQ .addr P (Instr.indexAt T_sl_epochs_start s6.v (.int .i64 (IntKind.i64.wrap (t3.fst - 1)))) w4 fun (a7 : Addr) =>
 RunQ (.int .i64) P (Instr.loadAt T_int (.pointer (some (Go.Addr.add a7 1)))) w4 fun (n8 : Int) =>
 ifB (decide (n8 ≥ x1))
 (next2 (some ((IntKind.i64.wrap (t3.fst - 1)), ())) w4)
 (nilCk x0 fun (a9 : Addr) =>
 RunQ .sl P (Instr.loadAt T_sl_epochs_start (.pointer (some (a9.add 0)))) w4 fun (s10 : Sl) =>
 RunQ .sl P (Instr.sliceAt T_sl_epochs_start s10.v none (some (.int .i64 t3.fst)) none) w4 fun (s11 : Sl) =>
 nilCk x0 fun (a12 : Addr) =>
 StoreP P T_sl_epochs_start (.pointer (some (a12.add 0))) s11.v w4 fun w13 =>
 R (.tuple #[]) w13))
 (nilCk x0 fun (a14 : Addr) =>
 RunQ .sl P (Instr.loadAt T_sl_epochs_start (.pointer (some (a14.add 0)))) w4 fun (s15 : Sl) =>
 RunQ .sl P (Instr.sliceAt T_sl_epochs_start s15.v none (some (.int .i64 t3.fst)) none) w4 fun (s16 : Sl) =>
 nilCk x0 fun (a17 : Addr) =>
 StoreP P T_sl_epochs_start (.pointer (some (a17.add 0))) s16.v w4 fun w18 =>
 R (.tuple #[]) w18))
theorem c_epochs_Cache_Cut {R : Value → World → Prop} {x0 : Option Addr} {x1 : Int} {w : World} (h : S_epochs_Cache_Cut R x0 x1 w) : CallP P F_epochs_Cache_Cut [.pointer x0, .int .i64 x1] w R := mkC (an := ⟨[], [(2, [(4, (.int .i64))])], []⟩) Tryz.func136 (by kernel_rfl) h

end Go.Proofs.YtnjadekngjgjcaaGreatDoor
