/- The functions of the program as predicates over worlds, written by a program of mine (PkPrint); each is held against the code by the kernel. -/
import Derived.Test.YtnjadekngjgjcaaGreatDoorN
namespace Go.Proofs.YtnjadekngjgjcaaGreatDoor
open Go Go.Pk
/-- penstock/seglog.Open -/
def S_seglog_Open (R : Value → World → Prop) (x0 : Option Addr) (x1 : ByteArray) (w : World) : Prop :=
 JoinP (T := Unit) (fun J0 =>
 ifB (Option.isNone x0)
 (R (.tuple #[(.pointer none), (.int .i64 5)]) w)
 (ifB (ByteArray.toList x1 == (ByteArray.mk #[]).toList)
 (R (.tuple #[(.pointer none), (.int .i64 1)]) w)
 (ifB (decide ((↑(ByteArray.size x1) : Int) > 8))
 (R (.tuple #[(.pointer none), (.int .i64 1)]) w)
 (CallP P F_seglog_dotted [(.string x1)] w fun (v3 : Value) w4 =>
 TyP .bool v3 fun (b5 : Bool) =>
 ifB b5
 (R (.tuple #[(.pointer none), (.int .i64 1)]) w4)
 (CallP P F_disk_Disk_Dead [(.pointer x0)] w4 fun (v6 : Value) w7 =>
 TyP .bool v6 fun (b8 : Bool) =>
 ifB b8
 (R (.tuple #[(.pointer none), (.int .i64 9)]) w7)
 (J0 (some ()) w7))))))
 fun t1 w2 =>
 CallP P F_frame_New [] w2 fun (v9 : Value) w10 =>
 TyP .ptr v9 fun (p11 : Option Addr) =>
 RunK .addr P (Instr.box T_seglog_Log (.agg #[(.pointer x0), (.string x1), (.pointer p11), (.slice none 0 0), (.int .i64 0)])) w10 fun (a12 : Addr) w13 =>
 CallP P F_disk_Disk_Names [(.pointer x0)] w13 fun (v14 : Value) w15 =>
 TyP .sl v14 fun (s16 : Sl) =>
 LoopP (T := Bool × Int × Unit) (some (true, (0, ()))) w15 fun next17 t18 w19 =>
 ifB (decide (t18.snd.fst < (↑s16.len : Int)))
 (RunQ .addr P (Instr.indexAt T_sl_string s16.v (.int .i64 t18.snd.fst)) w19 fun (a20 : Addr) =>
 RunQ .str P (Instr.loadAt T_string (.pointer (some a20))) w19 fun (t21 : ByteArray) =>
 RunK .str P (do (eqGuard .add T_string (.tmp 0) (.const (.string (ByteArray.mk #[46]))) (.string x1) (.string (ByteArray.mk #[46]))); (binOp .add T_string (.string x1) (.string (ByteArray.mk #[46])))) w19 fun (t22 : ByteArray) w23 =>
 CallP P F_strings_TrimPrefix [(.string t21), (.string t22)] w23 fun (v24 : Value) w25 =>
 TyP .str v24 fun (t26 : ByteArray) =>
 CallP P F_strconv_Atoi [(.string t26)] w25 fun (v27 : Value) w28 =>
 TupP [(.int .i64), .val] v27 fun (t29 : Int × Value × Unit) =>
 JoinP (T := Unit) (fun J30 =>
 RunK .str P (do (eqGuard .add T_string (.tmp 0) (.const (.string (ByteArray.mk #[46]))) (.string x1) (.string (ByteArray.mk #[46]))); (binOp .add T_string (.string x1) (.string (ByteArray.mk #[46])))) w28 fun (t33 : ByteArray) w34 =>
 CallP P F_strings_HasPrefix [(.string t21), (.string t33)] w34 fun (v35 : Value) w36 =>
 TyP .bool v35 fun (b37 : Bool) =>
 ifB (!b37)
 (next17 (some (t18.fst, ((IntKind.i64.wrap (t18.snd.fst + 1)), ()))) w36)
 (RunQ .bool P (do (eqGuard .neq T_error (.tmp 0) (.const .nilIface) t29.snd.1 .nilIface); (binOp .neq T_error t29.snd.1 .nilIface)) w36 fun (b38 : Bool) =>
 ifB b38
 (next17 (some (t18.fst, ((IntKind.i64.wrap (t18.snd.fst + 1)), ()))) w36)
 (CallP P F_seglog_Log_file [(.pointer (some a12)), (.int .i64 t29.fst)] w36 fun (v39 : Value) w40 =>
 TyP .str v39 fun (t41 : ByteArray) =>
 ifB (!ByteArray.toList t21 == ByteArray.toList t41)
 (next17 (some (t18.fst, ((IntKind.i64.wrap (t18.snd.fst + 1)), ()))) w40)
 (J30 (some ()) w40))))
 fun t31 w32 =>
 JoinP (T := Unit) (fun J42 =>
 ifB (!t18.fst)
 (CallP P F_disk_Disk_Remove [(.pointer x0), (.string t21)] w32 fun (v45 : Value) w46 =>
 TyP (.int .i64) v45 fun (n47 : Int) =>
 next17 (some (false, ((IntKind.i64.wrap (t18.snd.fst + 1)), ()))) w46)
 (RunQ .sl P (Instr.loadAt T_sl_p_seglog_segment (.pointer (some (Go.Addr.add a12 3)))) w32 fun (s48 : Sl) =>
 ifB (decide ((↑s48.len : Int) > 0))
 (CallP P F_seglog_Log_End [(.pointer (some a12))] w32 fun (v49 : Value) w50 =>
 TyP (.int .i64) v49 fun (n51 : Int) =>
 ifB (t29.fst != n51)
 (CallP P F_disk_Disk_Remove [(.pointer x0), (.string t21)] w50 fun (v52 : Value) w53 =>
 TyP (.int .i64) v52 fun (n54 : Int) =>
 next17 (some (false, ((IntKind.i64.wrap (t18.snd.fst + 1)), ()))) w53)
 (J42 (some ()) w50))
 (J42 (some ()) w32)))
 fun t43 w44 =>
 RunK .addr P (Instr.box T_seglog_segment (.agg #[(.int .i64 t29.fst), (.string t21), (.int .i64 0), (.slice none 0 0), (.slice none 0 0)])) w44 fun (a55 : Addr) w56 =>
 CallP P F_seglog_Log_load [(.pointer (some a12)), (.pointer (some a55))] w56 fun (v57 : Value) w58 =>
 TyP .bool v57 fun (b59 : Bool) =>
 RunQ .sl P (Instr.loadAt T_sl_p_seglog_segment (.pointer (some (Go.Addr.add a12 3)))) w58 fun (s60 : Sl) =>
 RunK .sl P (Instr.buildSlice T_sl_p_seglog_segment 1 #[(0, (.pointer (some a55)))]) w58 fun (s61 : Sl) w62 =>
 RunK .sl P (Builtin.append_ #[T_sl_p_seglog_segment, T_sl_p_seglog_segment] T_sl_p_seglog_segment #[s60.v, s61.v]) w62 fun (s63 : Sl) w64 =>
 StoreP P T_sl_p_seglog_segment (.pointer (some (Go.Addr.add a12 3))) s63.v w64 fun w65 =>
 next17 (some (b59, ((IntKind.i64.wrap (t18.snd.fst + 1)), ()))) w65)
 (CallP P F_seglog_Log_lasting [(.pointer (some a12))] w19 fun (v66 : Value) w67 =>
 TyP (.int .i64) v66 fun (n68 : Int) =>
 StoreP P T_int (.pointer (some (Go.Addr.add a12 4))) (.int .i64 n68) w67 fun w69 =>
 R (.tuple #[(.pointer (some a12)), (.int .i64 0)]) w69)
theorem c_seglog_Open {R : Value → World → Prop} {x0 : Option Addr} {x1 : ByteArray} {w : World} (h : S_seglog_Open R x0 x1 w) : CallP P F_seglog_Open [.pointer x0, .string x1] w R := mkC (an := ⟨[(17, []), (14, []), (7, [])], [(10, [(7, .bool), (39, (.int .i64))])], []⟩) Tryz.func42 (by kernel_rfl) h


/-- (*penstock/seglog.Log).Put -/
def S_seglog_Log_Put (R : Value → World → Prop) (x0 : Option Addr) (x1 : Value) (w : World) : Prop :=
 RunK .addr P (Instr.box T_api_Batch x1) w fun (a0 : Addr) w1 =>
 ifB (Option.isNone x0)
 (R (.int .i64 5) w1)
 (RunQ .val P (Instr.loadAt T_api_Batch (.pointer (some a0))) w1 fun (v2 : Value) =>
 CallP P F_batch_Encode [v2] w1 fun (v3 : Value) w4 =>
 TupP [.sl, (.int .i64)] v3 fun (t5 : Sl × Int × Unit) =>
 ifB (t5.snd.fst != 0)
 (R (.int .i64 t5.snd.fst) w4)
 (∃ S6 : World → Prop, (S6 w4.drew) ∧
 HRun S6 (.int .i64) P (Instr.loadAt T_int (.pointer (some (Go.Addr.add a0 0)))) fun (n7 : Int) =>
 CallP P F_seglog_Log_End [(.pointer x0)] w4.drew fun (v8 : Value) w9 =>
 TyP (.int .i64) v8 fun (n10 : Int) =>
 (S6 w9) ∧
 ifB (n7 != n10)
 (R (.int .i64 13) w9)
 (nilCk x0 fun (a11 : Addr) =>
 RunQ .ptr P (Instr.loadAt T_p_frame_Framer (.pointer (some (a11.add 2)))) w9 fun (p12 : Option Addr) =>
 CallP P F_frame_Framer_Encode [(.pointer p12), t5.fst.v] w9 fun (v13 : Value) w14 =>
 TupP [.sl, (.int .i64)] v13 fun (t15 : Sl × Int × Unit) =>
 CallP P F_seglog_Log_roll [(.pointer x0)] w14 fun (v16 : Value) w17 =>
 TyP (.int .i64) v16 fun (n18 : Int) =>
 ifB (n18 != 0)
 (R (.int .i64 n18) w17)
 (nilCk x0 fun (a19 : Addr) =>
 RunQ .sl P (Instr.loadAt T_sl_p_seglog_segment (.pointer (some (a19.add 3)))) w17.drew fun (s20 : Sl) =>
 nilCk x0 fun (a21 : Addr) =>
 RunQ .sl P (Instr.loadAt T_sl_p_seglog_segment (.pointer (some (a21.add 3)))) w17.drew fun (s22 : Sl) =>
 RunQ .addr P (Instr.indexAt T_sl_p_seglog_segment s20.v (.int .i64 (IntKind.i64.wrap ((↑s22.len : Int) - 1)))) w17.drew fun (a23 : Addr) =>
 RunQ .ptr P (Instr.loadAt T_p_seglog_segment (.pointer (some a23))) w17.drew fun (p24 : Option Addr) =>
 ∃ S25 : World → Prop, (S25 w17.drew.drew) ∧
 nilCk x0 fun (a26 : Addr) =>
 HRun S25 .ptr P (Instr.loadAt T_p_disk_Disk (.pointer (some (a26.add 0)))) fun (p27 : Option Addr) =>
 nilCk p24 fun (a28 : Addr) =>
 HRun S25 .str P (Instr.loadAt T_string (.pointer (some (a28.add 1)))) fun (t29 : ByteArray) =>
 CallP P F_disk_Disk_Append [(.pointer p27), (.string t29), t15.fst.v] w17.drew.drew fun (v30 : Value) w31 =>
 TyP (.int .i64) v30 fun (n32 : Int) =>
 (S25 w31) ∧
 ifB (n32 == 0)
 (RunQ .val P (Instr.loadAt T_api_Batch (.pointer (some a0))) w31 fun (v33 : Value) =>
 CallP P F_seglog_own [v33] w31 fun (v34 : Value) w35 =>
 TyP .val v34 fun (v36 : Value) =>
 CallP P F_seglog_segment_add [(.pointer p24), v36, (.int .i64 ((↑t15.fst.len : Int)))] w35 fun (v37 : Value) w38 =>
 TupP [] v37 fun (t39 : Unit) =>
 R (.int .i64 n32) w38)
 (R (.int .i64 n32) w31)))))
theorem c_seglog_Log_Put {R : Value → World → Prop} {x0 : Option Addr} {x1 : Value} {w : World} (h : S_seglog_Log_Put R x0 x1 w) : CallP P F_seglog_Log_Put [.pointer x0, x1] w R := mkC (an := ⟨[], [], []⟩) Tryz.func70 (by kernel_rfl) h


/-- (*penstock/seglog.Log).Read -/
def S_seglog_Log_Read (R : Value → World → Prop) (x0 : Option Addr) (x1 : Int) (x2 : Int) (w : World) : Prop :=
 ifB (Option.isNone x0)
 (R (.slice none 0 0) w)
 (nilCk x0 fun (a0 : Addr) =>
 RunQ .sl P (Instr.loadAt T_sl_p_seglog_segment (.pointer (some (a0.add 3)))) w fun (s1 : Sl) =>
 LoopP (T := Sl × Int × Unit) (some (⟨none, 0, 0⟩, (0, ()))) w fun next2 t3 w4 =>
 ifB (decide (t3.snd.fst < (↑s1.len : Int)))
 (RunQ .addr P (Instr.indexAt T_sl_p_seglog_segment s1.v (.int .i64 t3.snd.fst)) w4 fun (a5 : Addr) =>
 RunQ .ptr P (Instr.loadAt T_p_seglog_segment (.pointer (some a5))) w4 fun (p6 : Option Addr) =>
 CallP P F_seglog_segment_end [(.pointer p6)] w4 fun (v7 : Value) w8 =>
 TyP (.int .i64) v7 fun (n9 : Int) =>
 ifB (decide (n9 ≤ x1))
 (next2 (some (t3.fst, ((IntKind.i64.wrap (t3.snd.fst + 1)), ()))) w8)
 (nilCk p6 fun (a10 : Addr) =>
 RunQ .sl P (Instr.loadAt T_sl_api_Batch (.pointer (some (a10.add 3)))) w8 fun (s11 : Sl) =>
 LoopP (T := Sl × Int × Unit) (some (t3.fst, (0, ()))) w8 fun next12 t13 w14 =>
 ifB (decide (t13.snd.fst < (↑s11.len : Int)))
 (RunQ .addr P (Instr.indexAt T_sl_api_Batch s11.v (.int .i64 t13.snd.fst)) w14 fun (a15 : Addr) =>
 RunQ .val P (Instr.loadAt T_api_Batch (.pointer (some a15))) w14 fun (v16 : Value) =>
 RunK .addr P (Instr.alloc T_api_Batch true (.tuple #[])) w14 fun (a17 : Addr) w18 =>
 StoreP P T_api_Batch (.pointer (some a17)) v16 w18 fun w19 =>
 ifB (decide ((↑t13.fst.len : Int) ≥ x2))
 (R t13.fst.v w19)
 (∃ S20 : World → Prop, (S20 w19.drew) ∧
 HRun S20 (.int .i64) P (Instr.loadAt T_int (.pointer (some (Go.Addr.add a17 0)))) fun (n21 : Int) =>
 HRun S20 .val P (Instr.loadAt T_api_Batch (.pointer (some a17))) fun (v22 : Value) =>
 CallP P F_batch_Size [v22] w19.drew fun (v23 : Value) w24 =>
 TyP (.int .i64) v23 fun (n25 : Int) =>
 (S20 w24) ∧
 ifB (decide (IntKind.i64.wrap (n21 + n25) > x1))
 (RunQ .val P (Instr.loadAt T_api_Batch (.pointer (some a17))) w24 fun (v26 : Value) =>
 CallP P F_seglog_own [v26] w24 fun (v27 : Value) w28 =>
 TyP .val v27 fun (v29 : Value) =>
 RunK .sl P (Instr.buildSlice T_sl_api_Batch 1 #[(0, v29)]) w28 fun (s30 : Sl) w31 =>
 RunK .sl P (Builtin.append_ #[T_sl_api_Batch, T_sl_api_Batch] T_sl_api_Batch #[t13.fst.v, s30.v]) w31 fun (s32 : Sl) w33 =>
 next12 (some (s32, ((IntKind.i64.wrap (t13.snd.fst + 1)), ()))) w33)
 (next12 (some (t13.fst, ((IntKind.i64.wrap (t13.snd.fst + 1)), ()))) w24)))
 (next2 (some (t13.fst, ((IntKind.i64.wrap (t3.snd.fst + 1)), ()))) w14)))
 (R t3.fst.v w4))
theorem c_seglog_Log_Read {R : Value → World → Prop} {x0 : Option Addr} {x1 : Int} {x2 : Int} {w : World} (h : S_seglog_Log_Read R x0 x1 x2 w) : CallP P F_seglog_Log_Read [.pointer x0, .int .i64 x1, .int .i64 x2] w R := mkC (an := ⟨[], [(9, [(7, .sl), (32, (.int .i64))]), (5, [(7, .sl), (19, (.int .i64))])], []⟩) Tryz.func58 (by kernel_rfl) h


/-- (*penstock/seglog.Log).End -/
def S_seglog_Log_End (R : Value → World → Prop) (x0 : Option Addr) (w : World) : Prop :=
 JoinP (T := Unit) (fun J0 =>
 ifB (Option.isNone x0)
 (R (.int .i64 0) w)
 (nilCk x0 fun (a3 : Addr) =>
 RunQ .sl P (Instr.loadAt T_sl_p_seglog_segment (.pointer (some (a3.add 3)))) w fun (s4 : Sl) =>
 ifB ((↑s4.len : Int) == 0)
 (R (.int .i64 0) w)
 (J0 (some ()) w)))
 fun t1 w2 =>
 ∃ S5 : World → Prop, (S5 w2.drew) ∧
 nilCk x0 fun (a6 : Addr) =>
 HRun S5 .sl P (Instr.loadAt T_sl_p_seglog_segment (.pointer (some (a6.add 3)))) fun (s7 : Sl) =>
 nilCk x0 fun (a8 : Addr) =>
 HRun S5 .sl P (Instr.loadAt T_sl_p_seglog_segment (.pointer (some (a8.add 3)))) fun (s9 : Sl) =>
 HRun S5 .addr P (Instr.indexAt T_sl_p_seglog_segment s7.v (.int .i64 (IntKind.i64.wrap ((↑s9.len : Int) - 1)))) fun (a10 : Addr) =>
 HRun S5 .ptr P (Instr.loadAt T_p_seglog_segment (.pointer (some a10))) fun (p11 : Option Addr) =>
 CallP P F_seglog_segment_end [(.pointer p11)] w2.drew fun (v12 : Value) w13 =>
 TyP (.int .i64) v12 fun (n14 : Int) =>
 (S5 w13) ∧
 R (.int .i64 n14) w13
theorem c_seglog_Log_End {R : Value → World → Prop} {x0 : Option Addr} {w : World} (h : S_seglog_Log_End R x0 w) : CallP P F_seglog_Log_End [.pointer x0] w R := mkC (an := ⟨[(3, [])], [], []⟩) Tryz.func45 (by kernel_rfl) h


/-- (*penstock/seglog.Log).Flush -/
def S_seglog_Log_Flush (R : Value → World → Prop) (x0 : Option Addr) (w : World) : Prop :=
 ifB (Option.isNone x0)
 (R (.int .i64 5) w)
 (nilCk x0 fun (a0 : Addr) =>
 RunQ .sl P (Instr.loadAt T_sl_p_seglog_segment (.pointer (some (a0.add 3)))) w fun (s1 : Sl) =>
 ifB ((↑s1.len : Int) == 0)
 (R (.int .i64 0) w)
 (∃ S2 : World → Prop, (S2 w.drew) ∧
 nilCk x0 fun (a3 : Addr) =>
 HRun S2 .ptr P (Instr.loadAt T_p_disk_Disk (.pointer (some (a3.add 0)))) fun (p4 : Option Addr) =>
 nilCk x0 fun (a5 : Addr) =>
 HRun S2 .sl P (Instr.loadAt T_sl_p_seglog_segment (.pointer (some (a5.add 3)))) fun (s6 : Sl) =>
 nilCk x0 fun (a7 : Addr) =>
 HRun S2 .sl P (Instr.loadAt T_sl_p_seglog_segment (.pointer (some (a7.add 3)))) fun (s8 : Sl) =>
 HRun S2 .addr P (Instr.indexAt T_sl_p_seglog_segment s6.v (.int .i64 (IntKind.i64.wrap ((↑s8.len : Int) - 1)))) fun (a9 : Addr) =>
 HRun S2 .ptr P (Instr.loadAt T_p_seglog_segment (.pointer (some a9))) fun (p10 : Option Addr) =>
 nilCk p10 fun (a11 : Addr) =>
 HRun S2 .str P (Instr.loadAt T_string (.pointer (some (a11.add 1)))) fun (t12 : ByteArray) =>
 CallP P F_disk_Disk_Sync [(.pointer p4), (.string t12)] w.drew fun (v13 : Value) w14 =>
 TyP (.int .i64) v13 fun (n15 : Int) =>
 (S2 w14) ∧
 ifB (n15 == 0)
 (CallP P F_seglog_Log_End [(.pointer x0)] w14 fun (v16 : Value) w17 =>
 TyP (.int .i64) v16 fun (n18 : Int) =>
 nilCk x0 fun (a19 : Addr) =>
 StoreP P T_int (.pointer (some (a19.add 4))) (.int .i64 n18) w17 fun w20 =>
 R (.int .i64 n15) w20)
 (R (.int .i64 n15) w14)))
theorem c_seglog_Log_Flush {R : Value → World → Prop} {x0 : Option Addr} {w : World} (h : S_seglog_Log_Flush R x0 w) : CallP P F_seglog_Log_Flush [.pointer x0] w R := mkC (an := ⟨[], [], []⟩) Tryz.func71 (by kernel_rfl) h


/-- (*penstock/seglog.Log).Start -/
def S_seglog_Log_Start (R : Value → World → Prop) (x0 : Option Addr) (w : World) : Prop :=
 JoinP (T := Unit) (fun J0 =>
 ifB (Option.isNone x0)
 (R (.int .i64 0) w)
 (nilCk x0 fun (a3 : Addr) =>
 RunQ .sl P (Instr.loadAt T_sl_p_seglog_segment (.pointer (some (a3.add 3)))) w fun (s4 : Sl) =>
 ifB ((↑s4.len : Int) == 0)
 (R (.int .i64 0) w)
 (J0 (some ()) w)))
 fun t1 w2 =>
 nilCk x0 fun (a5 : Addr) =>
 RunQ .sl P (Instr.loadAt T_sl_p_seglog_segment (.pointer (some (a5.add 3)))) w2 fun (s6 : Sl) =>
 RunQ .addr P (Instr.indexAt T_sl_p_seglog_segment s6.v (.int .i64 0)) w2 fun (a7 : Addr) =>
 RunQ .ptr P (Instr.loadAt T_p_seglog_segment (.pointer (some a7))) w2 fun (p8 : Option Addr) =>
 nilCk p8 fun (a9 : Addr) =>
 RunQ (.int .i64) P (Instr.loadAt T_int (.pointer (some (a9.add 0)))) w2 fun (n10 : Int) =>
 R (.int .i64 n10) w2
theorem c_seglog_Log_Start {R : Value → World → Prop} {x0 : Option Addr} {w : World} (h : S_seglog_Log_Start R x0 w) : CallP P F_seglog_Log_Start [.pointer x0] w R := mkC (an := ⟨[(3, [])], [], []⟩) Tryz.func44 (by kernel_rfl) h


/-- (*penstock/seglog.Log).Synced -/
def S_seglog_Log_Synced (R : Value → World → Prop) (x0 : Option Addr) (w : World) : Prop :=
 ifB (Option.isNone x0)
 (R (.int .i64 0) w)
 (nilCk x0 fun (a0 : Addr) =>
 RunQ (.int .i64) P (Instr.loadAt T_int (.pointer (some (a0.add 4)))) w fun (n1 : Int) =>
 R (.int .i64 n1) w)
theorem c_seglog_Log_Synced {R : Value → World → Prop} {x0 : Option Addr} {w : World} (h : S_seglog_Log_Synced R x0 w) : CallP P F_seglog_Log_Synced [.pointer x0] w R := mkC (an := ⟨[], [], []⟩) Tryz.func91 (by kernel_rfl) h


/-- penstock/seglog.dotted -/
def S_seglog_dotted (R : Value → World → Prop) (x0 : ByteArray) (w : World) : Prop :=
 RunK .addr P (Instr.range T_string (.string x0)) w fun (a0 : Addr) w1 =>
 LoopP (T := Unit) (some ()) w1 fun next2 t3 w4 =>
 NextP P (Instr.next (.pointer (some a0)) true 0) w4 (fun w8 =>
 R (.bool false) w8) fun (v5 v6 : Value) w7 =>
 TyP (.int .i64) v5 fun (n9 : Int) =>
 TyP (.int .i32) v6 fun (n10 : Int) =>
 ifB (n10 == 46)
 (R (.bool true) w7)
 (next2 (some ()) w7)
theorem c_seglog_dotted {R : Value → World → Prop} {x0 : ByteArray} {w : World} (h : S_seglog_dotted R x0 w) : CallP P F_seglog_dotted [.string x0] w R := mkC (an := ⟨[], [(2, [])], []⟩) Tryz.func77 (by kernel_rfl) h


/-- (*penstock/seglog.Log).file -/
def S_seglog_Log_file (R : Value → World → Prop) (x0 : Option Addr) (x1 : Int) (w : World) : Prop :=
 CallP P F_strconv_Itoa [(.int .i64 x1)] w fun (v0 : Value) w1 =>
 TyP .str v0 fun (t2 : ByteArray) =>
 ∃ S3 : World → Prop, (S3 w1.drew) ∧
 nilCk x0 fun (a4 : Addr) =>
 HRun S3 .str P (Instr.loadAt T_string (.pointer (some (a4.add 1)))) fun (t5 : ByteArray) =>
 (RunK .str P (do (eqGuard .add T_string (.tmp 0) (.const (.string (ByteArray.mk #[46]))) (.string t5) (.string (ByteArray.mk #[46]))); (binOp .add T_string (.string t5) (.string (ByteArray.mk #[46])))) w1.drew fun (t6 : ByteArray) w7 =>
 (S3 w7) ∧
 CallP P F_strings_Repeat [(.string (ByteArray.mk #[48])), (.int .i64 (if 0 > IntKind.i64.wrap (8 - (↑(ByteArray.size t2) : Int)) then 0 else IntKind.i64.wrap (8 - (↑(ByteArray.size t2) : Int))))] w7 fun (v8 : Value) w9 =>
 TyP .str v8 fun (t10 : ByteArray) =>
 (S3 w9) ∧
 RunK .str P (do (eqGuard .add T_string (.tmp 0) (.tmp 0) (.string t6) (.string t10)); (binOp .add T_string (.string t6) (.string t10))) w9 fun (t11 : ByteArray) w12 =>
 (S3 w12) ∧
 RunK .str P (do (eqGuard .add T_string (.tmp 0) (.tmp 0) (.string t11) (.string t2)); (binOp .add T_string (.string t11) (.string t2))) w12 fun (t13 : ByteArray) w14 =>
 (S3 w14) ∧
 R (.string t13) w14) ∧
 (CallP P F_strings_Repeat [(.string (ByteArray.mk #[48])), (.int .i64 (if 0 > IntKind.i64.wrap (8 - (↑(ByteArray.size t2) : Int)) then 0 else IntKind.i64.wrap (8 - (↑(ByteArray.size t2) : Int))))] w1.drew fun (v15 : Value) w16 =>
 TyP .str v15 fun (t17 : ByteArray) =>
 (S3 w16) ∧
 RunK .str P (do (eqGuard .add T_string (.tmp 0) (.const (.string (ByteArray.mk #[46]))) (.string t5) (.string (ByteArray.mk #[46]))); (binOp .add T_string (.string t5) (.string (ByteArray.mk #[46])))) w16 fun (t18 : ByteArray) w19 =>
 (S3 w19) ∧
 RunK .str P (do (eqGuard .add T_string (.tmp 0) (.tmp 0) (.string t18) (.string t17)); (binOp .add T_string (.string t18) (.string t17))) w19 fun (t20 : ByteArray) w21 =>
 (S3 w21) ∧
 RunK .str P (do (eqGuard .add T_string (.tmp 0) (.tmp 0) (.string t20) (.string t2)); (binOp .add T_string (.string t20) (.string t2))) w21 fun (t22 : ByteArray) w23 =>
 (S3 w23) ∧
 R (.string t22) w23) ∧
 True
theorem c_seglog_Log_file {R : Value → World → Prop} {x0 : Option Addr} {x1 : Int} {w : World} (h : S_seglog_Log_file R x0 x1 w) : CallP P F_seglog_Log_file [.pointer x0, .int .i64 x1] w R := mkC (an := ⟨[], [], []⟩) Tryz.func84 (by kernel_rfl) h


/-- (*penstock/seglog.Log).load -/
def S_seglog_Log_load (R : Value → World → Prop) (x0 : Option Addr) (x1 : Option Addr) (w : World) : Prop :=
 ∃ S0 : World → Prop, (S0 w.drew) ∧
 nilCk x0 fun (a1 : Addr) =>
 HRun S0 .ptr P (Instr.loadAt T_p_disk_Disk (.pointer (some (a1.add 0)))) fun (p2 : Option Addr) =>
 nilCk x1 fun (a3 : Addr) =>
 HRun S0 .str P (Instr.loadAt T_string (.pointer (some (a3.add 1)))) fun (t4 : ByteArray) =>
 CallP P F_disk_Disk_Read [(.pointer p2), (.string t4)] w.drew fun (v5 : Value) w6 =>
 TupP [.sl, (.int .i64)] v5 fun (t7 : Sl × Int × Unit) =>
 (S0 w6) ∧
 JoinP (T := Unit) (fun J8 =>
 LoopP (T := Unit) (some ()) w6 fun next11 t12 w13 =>
 nilCk x1 fun (a14 : Addr) =>
 RunQ (.int .i64) P (Instr.loadAt T_int (.pointer (some (a14.add 2)))) w13 fun (n15 : Int) =>
 ifB (decide (n15 < (↑t7.fst.len : Int)))
 (∃ S16 : World → Prop, (S16 w13.drew) ∧
 nilCk x0 fun (a17 : Addr) =>
 HRun S16 .ptr P (Instr.loadAt T_p_frame_Framer (.pointer (some (a17.add 2)))) fun (p18 : Option Addr) =>
 nilCk x1 fun (a19 : Addr) =>
 HRun S16 (.int .i64) P (Instr.loadAt T_int (.pointer (some (a19.add 2)))) fun (n20 : Int) =>
 HRun S16 .sl P (Instr.sliceAt T_sl_uint8 t7.fst.v (some (.int .i64 n20)) none none) fun (s21 : Sl) =>
 CallP P F_frame_Framer_Decode [(.pointer p18), s21.v] w13.drew fun (v22 : Value) w23 =>
 TupP [.sl, (.int .i64), (.int .i64)] v22 fun (t24 : Sl × Int × Int × Unit) =>
 (S16 w23) ∧
 ifB (t24.snd.snd.fst != 0)
 (J8 (some ()) w23)
 (CallP P F_batch_Decode [t24.fst.v] w23 fun (v25 : Value) w26 =>
 TupP [.val, (.int .i64)] v25 fun (t27 : Value × Int × Unit) =>
 RunK .addr P (Instr.alloc T_api_Batch true (.tuple #[])) w26 fun (a28 : Addr) w29 =>
 StoreP P T_api_Batch (.pointer (some a28)) t27.1 w29 fun w30 =>
 JoinP (T := Unit) (fun J31 =>
 ∃ S34 : World → Prop, (S34 w30.drew) ∧
 ifB (t27.snd.fst != 0)
 (J8 (some ()) w30.drew)
 (HRun S34 (.int .i64) P (Instr.loadAt T_int (.pointer (some (Go.Addr.add a28 0)))) fun (n35 : Int) =>
 CallP P F_seglog_segment_end [(.pointer x1)] w30.drew fun (v36 : Value) w37 =>
 TyP (.int .i64) v36 fun (n38 : Int) =>
 (S34 w37) ∧
 ifB (n35 != n38)
 (J8 (some ()) w37)
 (J31 (some ()) w37)))
 fun t32 w33 =>
 RunQ .val P (Instr.loadAt T_api_Batch (.pointer (some a28))) w33 fun (v39 : Value) =>
 CallP P F_seglog_segment_add [(.pointer x1), v39, (.int .i64 t24.snd.fst)] w33 fun (v40 : Value) w41 =>
 TupP [] v40 fun (t42 : Unit) =>
 next11 (some ()) w41))
 (J8 (some ()) w13))
 fun t9 w10 =>
 nilCk x1 fun (a43 : Addr) =>
 RunQ (.int .i64) P (Instr.loadAt T_int (.pointer (some (a43.add 2)))) w10 fun (n44 : Int) =>
 ifB (decide (n44 < (↑t7.fst.len : Int)))
 (∃ S45 : World → Prop, (S45 w10.drew) ∧
 nilCk x0 fun (a46 : Addr) =>
 HRun S45 .ptr P (Instr.loadAt T_p_disk_Disk (.pointer (some (a46.add 0)))) fun (p47 : Option Addr) =>
 nilCk x1 fun (a48 : Addr) =>
 HRun S45 .str P (Instr.loadAt T_string (.pointer (some (a48.add 1)))) fun (t49 : ByteArray) =>
 nilCk x1 fun (a50 : Addr) =>
 HRun S45 (.int .i64) P (Instr.loadAt T_int (.pointer (some (a50.add 2)))) fun (n51 : Int) =>
 CallP P F_disk_Disk_Cut [(.pointer p47), (.string t49), (.int .i64 n51)] w10.drew fun (v52 : Value) w53 =>
 TyP (.int .i64) v52 fun (n54 : Int) =>
 (S45 w53) ∧
 R (.bool false) w53)
 (R (.bool true) w10)
theorem c_seglog_Log_load {R : Value → World → Prop} {x0 : Option Addr} {x1 : Option Addr} {w : World} (h : S_seglog_Log_load R x0 x1 w) : CallP P F_seglog_Log_load [.pointer x0, .pointer x1] w R := mkC (an := ⟨[(7, []), (8, [])], [(2, [])], []⟩) Tryz.func86 (by kernel_rfl) h


/-- (*penstock/seglog.Log).lasting -/
def S_seglog_Log_lasting (R : Value → World → Prop) (x0 : Option Addr) (w : World) : Prop :=
 CallP P F_seglog_Log_Start [(.pointer x0)] w fun (v0 : Value) w1 =>
 TyP (.int .i64) v0 fun (n2 : Int) =>
 nilCk x0 fun (a3 : Addr) =>
 RunQ .sl P (Instr.loadAt T_sl_p_seglog_segment (.pointer (some (a3.add 3)))) w1 fun (s4 : Sl) =>
 LoopP (T := Int × Int × Unit) (some (n2, (0, ()))) w1 fun next5 t6 w7 =>
 ifB (decide (t6.snd.fst < (↑s4.len : Int)))
 (RunQ .addr P (Instr.indexAt T_sl_p_seglog_segment s4.v (.int .i64 t6.snd.fst)) w7 fun (a8 : Addr) =>
 RunQ .ptr P (Instr.loadAt T_p_seglog_segment (.pointer (some a8))) w7 fun (p9 : Option Addr) =>
 ∃ S10 : World → Prop, (S10 w7.drew) ∧
 nilCk x0 fun (a11 : Addr) =>
 HRun S10 .ptr P (Instr.loadAt T_p_disk_Disk (.pointer (some (a11.add 0)))) fun (p12 : Option Addr) =>
 nilCk p9 fun (a13 : Addr) =>
 HRun S10 .str P (Instr.loadAt T_string (.pointer (some (a13.add 1)))) fun (t14 : ByteArray) =>
 CallP P F_disk_Disk_Size [(.pointer p12), (.string t14)] w7.drew fun (v15 : Value) w16 =>
 TupP [(.int .i64), (.int .i64), (.int .i64)] v15 fun (t17 : Int × Int × Int × Unit) =>
 (S10 w16) ∧
 nilCk p9 fun (a18 : Addr) =>
 RunQ .sl P (Instr.loadAt T_sl_api_Batch (.pointer (some (a18.add 3)))) w16 fun (s19 : Sl) =>
 LoopP (T := Int × Int × Unit) (some (t6.fst, (0, ()))) w16 fun next20 t21 w22 =>
 ifB (decide (t21.snd.fst < (↑s19.len : Int)))
 (RunQ .addr P (Instr.indexAt T_sl_api_Batch s19.v (.int .i64 t21.snd.fst)) w22 fun (a23 : Addr) =>
 RunQ .val P (Instr.loadAt T_api_Batch (.pointer (some a23))) w22 fun (v24 : Value) =>
 RunK .addr P (Instr.alloc T_api_Batch true (.tuple #[])) w22 fun (a25 : Addr) w26 =>
 StoreP P T_api_Batch (.pointer (some a25)) v24 w26 fun w27 =>
 nilCk p9 fun (a28 : Addr) =>
 RunQ .sl P (Instr.loadAt T_sl_int (.pointer (some (a28.add 4)))) w27 fun (s29 : Sl) =>
 RunQ .addr P (Instr.indexAt T_sl_int s29.v (.int .i64 t21.snd.fst)) w27 fun (a30 : Addr) =>
 RunQ (.int .i64) P (Instr.loadAt T_int (.pointer (some a30))) w27 fun (n31 : Int) =>
 ifB (decide (n31 > t17.snd.fst))
 (R (.int .i64 t21.fst) w27)
 (∃ S32 : World → Prop, (S32 w27.drew) ∧
 HRun S32 (.int .i64) P (Instr.loadAt T_int (.pointer (some (Go.Addr.add a25 0)))) fun (n33 : Int) =>
 HRun S32 .val P (Instr.loadAt T_api_Batch (.pointer (some a25))) fun (v34 : Value) =>
 CallP P F_batch_Size [v34] w27.drew fun (v35 : Value) w36 =>
 TyP (.int .i64) v35 fun (n37 : Int) =>
 (S32 w36) ∧
 next20 (some ((IntKind.i64.wrap (n33 + n37)), ((IntKind.i64.wrap (t21.snd.fst + 1)), ()))) w36))
 (next5 (some (t21.fst, ((IntKind.i64.wrap (t6.snd.fst + 1)), ()))) w22))
 (R (.int .i64 t6.fst) w7)
theorem c_seglog_Log_lasting {R : Value → World → Prop} {x0 : Option Addr} {w : World} (h : S_seglog_Log_lasting R x0 w) : CallP P F_seglog_Log_lasting [.pointer x0] w R := mkC (an := ⟨[], [(7, [(3, (.int .i64)), (40, (.int .i64))]), (3, [(3, (.int .i64)), (18, (.int .i64))])], []⟩) Tryz.func87 (by kernel_rfl) h


/-- (*penstock/seglog.Log).roll -/
def S_seglog_Log_roll (R : Value → World → Prop) (x0 : Option Addr) (w : World) : Prop :=
 JoinP (T := Unit) (fun J0 =>
 nilCk x0 fun (a3 : Addr) =>
 RunQ .sl P (Instr.loadAt T_sl_p_seglog_segment (.pointer (some (a3.add 3)))) w fun (s4 : Sl) =>
 ifB (decide ((↑s4.len : Int) > 0))
 (nilCk x0 fun (a5 : Addr) =>
 RunQ .sl P (Instr.loadAt T_sl_p_seglog_segment (.pointer (some (a5.add 3)))) w fun (s6 : Sl) =>
 RunQ .addr P (Instr.indexAt T_sl_p_seglog_segment s6.v (.int .i64 (IntKind.i64.wrap ((↑s4.len : Int) - 1)))) w fun (a7 : Addr) =>
 RunQ .ptr P (Instr.loadAt T_p_seglog_segment (.pointer (some a7))) w fun (p8 : Option Addr) =>
 nilCk p8 fun (a9 : Addr) =>
 RunQ (.int .i64) P (Instr.loadAt T_int (.pointer (some (a9.add 2)))) w fun (n10 : Int) =>
 ifB (decide (n10 < 512))
 (R (.int .i64 0) w)
 (CallP P F_seglog_Log_Flush [(.pointer x0)] w fun (v11 : Value) w12 =>
 TyP (.int .i64) v11 fun (n13 : Int) =>
 ifB (n13 != 0)
 (R (.int .i64 n13) w12)
 (J0 (some ()) w12)))
 (J0 (some ()) w))
 fun t1 w2 =>
 CallP P F_seglog_Log_End [(.pointer x0)] w2 fun (v14 : Value) w15 =>
 TyP (.int .i64) v14 fun (n16 : Int) =>
 RunK .addr P (Instr.box T_seglog_segment (.agg #[(.int .i64 n16), (.string (ByteArray.mk #[])), (.int .i64 0), (.slice none 0 0), (.slice none 0 0)])) w15 fun (a17 : Addr) w18 =>
 RunQ (.int .i64) P (Instr.loadAt T_int (.pointer (some (Go.Addr.add a17 0)))) w18 fun (n19 : Int) =>
 CallP P F_seglog_Log_file [(.pointer x0), (.int .i64 n19)] w18 fun (v20 : Value) w21 =>
 TyP .str v20 fun (t22 : ByteArray) =>
 StoreP P T_string (.pointer (some (Go.Addr.add a17 1))) (.string t22) w21 fun w23 =>
 ∃ S24 : World → Prop, (S24 w23.drew) ∧
 nilCk x0 fun (a25 : Addr) =>
 HRun S24 .ptr P (Instr.loadAt T_p_disk_Disk (.pointer (some (a25.add 0)))) fun (p26 : Option Addr) =>
 HRun S24 .str P (Instr.loadAt T_string (.pointer (some (Go.Addr.add a17 1)))) fun (t27 : ByteArray) =>
 CallP P F_disk_Disk_Append [(.pointer p26), (.string t27), (.slice none 0 0)] w23.drew fun (v28 : Value) w29 =>
 TyP (.int .i64) v28 fun (n30 : Int) =>
 (S24 w29) ∧
 ifB (n30 != 0)
 (R (.int .i64 n30) w29)
 (nilCk x0 fun (a31 : Addr) =>
 RunQ .sl P (Instr.loadAt T_sl_p_seglog_segment (.pointer (some (a31.add 3)))) w29 fun (s32 : Sl) =>
 RunK .sl P (Instr.buildSlice T_sl_p_seglog_segment 1 #[(0, (.pointer (some a17)))]) w29 fun (s33 : Sl) w34 =>
 RunK .sl P (Builtin.append_ #[T_sl_p_seglog_segment, T_sl_p_seglog_segment] T_sl_p_seglog_segment #[s32.v, s33.v]) w34 fun (s35 : Sl) w36 =>
 nilCk x0 fun (a37 : Addr) =>
 StoreP P T_sl_p_seglog_segment (.pointer (some (a37.add 3))) s35.v w36 fun w38 =>
 R (.int .i64 0) w38)
theorem c_seglog_Log_roll {R : Value → World → Prop} {x0 : Option Addr} {w : World} (h : S_seglog_Log_roll R x0 w) : CallP P F_seglog_Log_roll [.pointer x0] w R := mkC (an := ⟨[(8, [])], [], []⟩) Tryz.func106 (by kernel_rfl) h


/-- (*penstock/seglog.segment).add -/
def S_seglog_segment_add (R : Value → World → Prop) (x0 : Option Addr) (x1 : Value) (x2 : Int) (w : World) : Prop :=
 RunK .addr P (Instr.box T_api_Batch x1) w fun (a0 : Addr) w1 =>
 nilCk x0 fun (a2 : Addr) =>
 RunQ (.int .i64) P (Instr.loadAt T_int (.pointer (some (a2.add 2)))) w1 fun (n3 : Int) =>
 nilCk x0 fun (a4 : Addr) =>
 StoreP P T_int (.pointer (some (a4.add 2))) (.int .i64 (IntKind.i64.wrap (n3 + x2))) w1 fun w5 =>
 JoinP (T := Unit) (fun J6 =>
 ∃ S9 : World → Prop, (S9 w5.drew) ∧
 nilCk x0 fun (a10 : Addr) =>
 HRun S9 .val P (Instr.loadAt T_api_Batch (.pointer (some a0))) fun (v11 : Value) =>
 (RunQ .sl P (Instr.loadAt T_sl_api_Batch (.pointer (some (a10.add 3)))) w5.drew fun (s12 : Sl) =>
 (S9 w5.drew) ∧
 RunK .sl P (Instr.buildSlice T_sl_api_Batch 1 #[(0, v11)]) w5.drew fun (s13 : Sl) w14 =>
 (S9 w14) ∧
 RunK .sl P (Builtin.append_ #[T_sl_api_Batch, T_sl_api_Batch] T_sl_api_Batch #[s12.v, s13.v]) w14 fun (s15 : Sl) w16 =>
 (S9 w16) ∧
 nilCk x0 fun (a17 : Addr) =>
 StoreP P T_sl_api_Batch (.pointer (some (a17.add 3))) s15.v w16 fun w18 =>
 (S9 w18) ∧
 J6 (some ()) w18) ∧
 (RunK .sl P (Instr.buildSlice T_sl_api_Batch 1 #[(0, v11)]) w5.drew fun (s19 : Sl) w20 =>
 (S9 w20) ∧
 RunQ .sl P (Instr.loadAt T_sl_api_Batch (.pointer (some (a10.add 3)))) w20 fun (s21 : Sl) =>
 (S9 w20) ∧
 RunK .sl P (Builtin.append_ #[T_sl_api_Batch, T_sl_api_Batch] T_sl_api_Batch #[s21.v, s19.v]) w20 fun (s22 : Sl) w23 =>
 (S9 w23) ∧
 nilCk x0 fun (a24 : Addr) =>
 StoreP P T_sl_api_Batch (.pointer (some (a24.add 3))) s22.v w23 fun w25 =>
 (S9 w25) ∧
 J6 (some ()) w25) ∧
 True)
 fun t7 w8 =>
 ∃ S26 : World → Prop, (S26 w8.drew) ∧
 nilCk x0 fun (a27 : Addr) =>
 nilCk x0 fun (a28 : Addr) =>
 HRun S26 (.int .i64) P (Instr.loadAt T_int (.pointer (some (a28.add 2)))) fun (n29 : Int) =>
 (RunQ .sl P (Instr.loadAt T_sl_int (.pointer (some (a27.add 4)))) w8.drew fun (s30 : Sl) =>
 (S26 w8.drew) ∧
 RunK .sl P (Instr.buildSlice T_sl_int 1 #[(0, (.int .i64 n29))]) w8.drew fun (s31 : Sl) w32 =>
 (S26 w32) ∧
 RunK .sl P (Builtin.append_ #[T_sl_int, T_sl_int] T_sl_int #[s30.v, s31.v]) w32 fun (s33 : Sl) w34 =>
 (S26 w34) ∧
 nilCk x0 fun (a35 : Addr) =>
 StoreP P T_sl_int (.pointer (some (a35.add 4))) s33.v w34 fun w36 =>
 (S26 w36) ∧
 R (.tuple #[]) w36) ∧
 (RunK .sl P (Instr.buildSlice T_sl_int 1 #[(0, (.int .i64 n29))]) w8.drew fun (s37 : Sl) w38 =>
 (S26 w38) ∧
 RunQ .sl P (Instr.loadAt T_sl_int (.pointer (some (a27.add 4)))) w38 fun (s39 : Sl) =>
 (S26 w38) ∧
 RunK .sl P (Builtin.append_ #[T_sl_int, T_sl_int] T_sl_int #[s39.v, s37.v]) w38 fun (s40 : Sl) w41 =>
 (S26 w41) ∧
 nilCk x0 fun (a42 : Addr) =>
 StoreP P T_sl_int (.pointer (some (a42.add 4))) s40.v w41 fun w43 =>
 (S26 w43) ∧
 R (.tuple #[]) w43) ∧
 True
theorem c_seglog_segment_add {R : Value → World → Prop} {x0 : Option Addr} {x1 : Value} {x2 : Int} {w : World} (h : S_seglog_segment_add R x0 x1 x2 w) : CallP P F_seglog_segment_add [.pointer x0, x1, .int .i64 x2] w R := mkC (an := ⟨[(3, [])], [], [2, 3]⟩) Tryz.func108 (by kernel_rfl) h


/-- penstock/seglog.own -/
def S_seglog_own (R : Value → World → Prop) (x0 : Value) (w : World) : Prop :=
 RunK .addr P (Instr.box T_api_Batch x0) w fun (a0 : Addr) w1 =>
 RunK .addr P (Instr.alloc T_api_Batch true (.tuple #[])) w1 fun (a2 : Addr) w3 =>
 RunQ .sl P (Instr.loadAt T_sl_sl_uint8 (.pointer (some (Go.Addr.add a0 8)))) w3 fun (s4 : Sl) =>
 RunK .sl P (Instr.makeSlice T_sl_sl_uint8 (.int .i64 ((↑s4.len : Int))) (.int .i64 ((↑s4.len : Int)))) w3 fun (s5 : Sl) w6 =>
 RunQ .sl P (Instr.loadAt T_sl_sl_uint8 (.pointer (some (Go.Addr.add a0 8)))) w6 fun (s7 : Sl) =>
 LoopP (T := Int × Unit) (some (0, ())) w6 fun next8 t9 w10 =>
 ifB (decide (t9.fst < (↑s7.len : Int)))
 (RunQ .addr P (Instr.indexAt T_sl_sl_uint8 s7.v (.int .i64 t9.fst)) w10 fun (a11 : Addr) =>
 RunQ .sl P (Instr.loadAt T_sl_uint8 (.pointer (some a11))) w10 fun (s12 : Sl) =>
 RunK .sl P (Builtin.append_ #[T_sl_uint8, T_sl_uint8] T_sl_uint8 #[(.slice none 0 0), s12.v]) w10 fun (s13 : Sl) w14 =>
 RunQ .addr P (Instr.indexAt T_sl_sl_uint8 s5.v (.int .i64 t9.fst)) w14 fun (a15 : Addr) =>
 StoreP P T_sl_uint8 (.pointer (some a15)) s13.v w14 fun w16 =>
 next8 (some ((IntKind.i64.wrap (t9.fst + 1)), ())) w16)
 (StoreP P T_sl_sl_uint8 (.pointer (some (Go.Addr.add a0 8))) s5.v w10 fun w17 =>
 RunQ .val P (Instr.loadAt T_api_Batch (.pointer (some a0))) w17 fun (v18 : Value) =>
 StoreP P T_api_Batch (.pointer (some a2)) v18 w17 fun w19 =>
 LoadK .val P T_api_Batch (.pointer (some a2)) w19 fun (v20 : Value) =>
 R v20 w19)
theorem c_seglog_own {R : Value → World → Prop} {x0 : Value} {w : World} (h : S_seglog_own R x0 w) : CallP P F_seglog_own [x0] w R := mkC (an := ⟨[], [(3, [(13, (.int .i64))])], []⟩) Tryz.func99 (by kernel_rfl) h


/-- (*penstock/seglog.segment).end -/
def S_seglog_segment_end (R : Value → World → Prop) (x0 : Option Addr) (w : World) : Prop :=
 nilCk x0 fun (a0 : Addr) =>
 RunQ .sl P (Instr.loadAt T_sl_api_Batch (.pointer (some (a0.add 3)))) w fun (s1 : Sl) =>
 ifB (decide ((↑s1.len : Int) > 0))
 (∃ S2 : World → Prop, (S2 w.drew) ∧
 nilCk x0 fun (a3 : Addr) =>
 HRun S2 .sl P (Instr.loadAt T_sl_api_Batch (.pointer (some (a3.add 3)))) fun (s4 : Sl) =>
 HRun S2 .addr P (Instr.indexAt T_sl_api_Batch s4.v (.int .i64 (IntKind.i64.wrap ((↑s1.len : Int) - 1)))) fun (a5 : Addr) =>
 HRun S2 (.int .i64) P (Instr.loadAt T_int (.pointer (some (Go.Addr.add a5 0)))) fun (n6 : Int) =>
 nilCk x0 fun (a7 : Addr) =>
 HRun S2 .sl P (Instr.loadAt T_sl_api_Batch (.pointer (some (a7.add 3)))) fun (s8 : Sl) =>
 HRun S2 .addr P (Instr.indexAt T_sl_api_Batch s8.v (.int .i64 (IntKind.i64.wrap ((↑s1.len : Int) - 1)))) fun (a9 : Addr) =>
 HRun S2 .val P (Instr.loadAt T_api_Batch (.pointer (some a9))) fun (v10 : Value) =>
 CallP P F_batch_Size [v10] w.drew fun (v11 : Value) w12 =>
 TyP (.int .i64) v11 fun (n13 : Int) =>
 (S2 w12) ∧
 R (.int .i64 (IntKind.i64.wrap (n6 + n13))) w12)
 (nilCk x0 fun (a14 : Addr) =>
 RunQ (.int .i64) P (Instr.loadAt T_int (.pointer (some (a14.add 0)))) w fun (n15 : Int) =>
 R (.int .i64 n15) w)
theorem c_seglog_segment_end {R : Value → World → Prop} {x0 : Option Addr} {w : World} (h : S_seglog_segment_end R x0 w) : CallP P F_seglog_segment_end [.pointer x0] w R := mkC (an := ⟨[], [], []⟩) Tryz.func90 (by kernel_rfl) h

end Go.Proofs.YtnjadekngjgjcaaGreatDoor
