/- The functions of the program as predicates over worlds, written by a program of mine (PkPrint); each is held against the code by the kernel. -/
import Derived.Test.YtnjadekngjgjcaaGreatDoorN
namespace Go.Proofs.YtnjadekngjgjcaaGreatDoor
open Go Go.Pk
/-- penstock/penstocklaw14.ReplicaNone -/
def S_law14_ReplicaNone (R : Value → World → Prop) (x0 : Value) (x1 : Int) (x2 : Int) (w : World) : Prop :=
 RunK .addr P (Instr.box T_penstocklaw14_Op x0) w fun (a0 : Addr) w1 =>
 CallP P F_replica_Open [(.pointer none), (.string (ByteArray.mk #[112])), (.int .i64 0), (.int .i64 0)] w1 fun (v2 : Value) w3 =>
 TupP [.ptr, (.int .i64)] v2 fun (t4 : Option Addr × Int × Unit) =>
 CallP P F_disk_New [] w3 fun (v5 : Value) w6 =>
 TyP .ptr v5 fun (p7 : Option Addr) =>
 CallP P F_replica_Open [(.pointer p7), (.string (ByteArray.mk #[112])), (.int .i64 x1), (.int .i64 x2)] w6 fun (v8 : Value) w9 =>
 TupP [.ptr, (.int .i64)] v8 fun (t10 : Option Addr × Int × Unit) =>
 JoinP (T := Bool × Unit) (fun J11 =>
 ifB (decide (x1 ≥ 0))
 (ifB (decide (x1 ≤ 5))
 (ifB (decide (x2 ≥ 0))
 (J11 (some ((decide (x2 ≤ 4)), ())) w9)
 (J11 (some (false, ())) w9))
 (J11 (some (false, ())) w9))
 (J11 (some (false, ())) w9))
 fun t12 w13 =>
 CallP P F_replica_Replica_Marks [(.pointer none)] w13 fun (v14 : Value) w15 =>
 TupP [(.int .i64), (.int .i64), (.int .i64), (.int .i64)] v14 fun (t16 : Int × Int × Int × Int × Unit) =>
 CallP P F_replica_Replica_Need [(.pointer none)] w15 fun (v17 : Value) w18 =>
 TupP [.val, .bool] v17 fun (t19 : Value × Bool × Unit) =>
 RunK .addr P (Instr.alloc T_api_FetchReq true (.tuple #[])) w18 fun (a20 : Addr) w21 =>
 StoreP P T_api_FetchReq (.pointer (some a20)) t19.1 w21 fun w22 =>
 RunQ .sl P (Instr.loadAt T_sl_int (.pointer (some (Go.Addr.add a0 2)))) w22 fun (s23 : Sl) =>
 CallP P F_replica_Replica_Want [(.pointer none), s23.v] w22 fun (v24 : Value) w25 =>
 TupP [.sl, .bool] v24 fun (t26 : Sl × Bool × Unit) =>
 RunQ (.int .i64) P (Instr.loadAt T_int (.pointer (some (Go.Addr.add a0 1)))) w25 fun (n27 : Int) =>
 RunQ (.int .i64) P (Instr.loadAt T_int (.pointer (some (Go.Addr.add a0 1)))) w25 fun (n28 : Int) =>
 CallP P F_replica_Replica_Committed [(.pointer none), (.int .i64 n27), (.int .i64 n28)] w25 fun (v29 : Value) w30 =>
 TupP [.sl, .sl, (.int .i64)] v29 fun (t31 : Sl × Sl × Int × Unit) =>
 RunQ .val P (Instr.loadAt T_api_Batch (.pointer (some (Go.Addr.add a0 3)))) w30 fun (v32 : Value) =>
 CallP P F_replica_Replica_Produce [(.pointer none), v32] w30 fun (v33 : Value) w34 =>
 TupP [(.int .i64), (.int .i64)] v33 fun (t35 : Int × Int × Unit) =>
 CallP P F_replica_Replica_Role [(.pointer none)] w34 fun (v36 : Value) w37 =>
 TupP [(.int .i64), .bool] v36 fun (t38 : Int × Bool × Unit) =>
 CallP P F_replica_Replica_Tick [(.pointer none)] w37 fun (v39 : Value) w40 =>
 TupP [] v39 fun (t41 : Unit) =>
 RunQ .sl P (Instr.loadAt T_sl_int (.pointer (some (Go.Addr.add a0 2)))) w40 fun (s42 : Sl) =>
 CallP P F_replica_Replica_Asked [(.pointer none), s42.v] w40 fun (v43 : Value) w44 =>
 TupP [] v43 fun (t45 : Unit) =>
 RunQ .val P (Instr.loadAt T_api_FetchReq (.pointer (some (Go.Addr.add a0 12)))) w44 fun (v46 : Value) =>
 CallP P F_replica_Replica_Fetch [(.pointer none), v46] w44 fun (v47 : Value) w48 =>
 TyP .val v47 fun (v49 : Value) =>
 RunK .addr P (Instr.alloc T_api_FetchReply true (.tuple #[])) w48 fun (a50 : Addr) w51 =>
 StoreP P T_api_FetchReply (.pointer (some a50)) v49 w51 fun w52 =>
 CallP P F_law14_awake [] w52 fun (v53 : Value) w54 =>
 TyP .bool v53 fun (b55 : Bool) =>
 ifB b55
 (ifB (Option.isNone t4.fst)
 (ifB (t4.snd.fst == 5)
 (ifB ((!Option.isNone t10.fst) == t12.fst)
 (ifB t12.fst
 (ifB (IntKind.i64.wrap (IntKind.i64.wrap (IntKind.i64.wrap (t16.fst + t16.snd.fst) + t16.snd.snd.fst) + t16.snd.snd.snd.fst) == 0)
 (ifB (!t19.snd.fst)
 (RunQ .val P (Instr.loadAt T_api_FetchReq (.pointer (some a20))) w54 fun (v56 : Value) =>
 RunQ .bool P (do (eqGuard .eql T_api_FetchReq (.tmp 0) (.tmp 0) v56 (.agg #[(.int .i64 0), (.int .i64 0), (.int .i64 0), (.int .i64 0), (.int .i64 0)])); (binOp .eql T_api_FetchReq v56 (.agg #[(.int .i64 0), (.int .i64 0), (.int .i64 0), (.int .i64 0), (.int .i64 0)]))) w54 fun (b57 : Bool) =>
 ifB b57
 (ifB ((↑t26.fst.len : Int) == 0)
 (ifB (!t26.snd.fst)
 (ifB (IntKind.i64.wrap ((↑t31.fst.len : Int) + (↑t31.snd.fst.len : Int)) == 0)
 (ifB (t31.snd.snd.fst == 0)
 (ifB (t35.fst == 0)
 (ifB (t35.snd.fst == 5)
 (ifB (t38.fst == 0)
 (ifB (!t38.snd.fst)
 (CallP P F_replica_Replica_Ready [(.pointer none)] w54 fun (v58 : Value) w59 =>
 TyP .bool v58 fun (b60 : Bool) =>
 ifB (!b60)
 (CallP P F_replica_Replica_Log [(.pointer none)] w59 fun (v61 : Value) w62 =>
 TyP .sl v61 fun (s63 : Sl) =>
 ifB ((↑s63.len : Int) == 0)
 (RunQ (.int .i64) P (Instr.loadAt T_api_Errno (.pointer (some (Go.Addr.add a50 2)))) w62 fun (n64 : Int) =>
 ifB (n64 == 5)
 (CallP P F_replica_Replica_Lead [(.pointer none), (.int .i64 1), (.slice none 0 0)] w62 fun (v65 : Value) w66 =>
 TyP (.int .i64) v65 fun (n67 : Int) =>
 ifB (n67 == 5)
 (CallP P F_replica_Replica_Follow [(.pointer none), (.int .i64 1)] w66 fun (v68 : Value) w69 =>
 TyP (.int .i64) v68 fun (n70 : Int) =>
 ifB (n70 == 5)
 (CallP P F_replica_Replica_Sync [(.pointer none), (.int .i64 1), (.slice none 0 0)] w69 fun (v71 : Value) w72 =>
 TyP (.int .i64) v71 fun (n73 : Int) =>
 ifB (n73 == 5)
 (RunQ .val P (Instr.loadAt T_api_FetchReply (.pointer (some (Go.Addr.add a0 17)))) w72 fun (v74 : Value) =>
 CallP P F_replica_Replica_Accept [(.pointer none), v74] w72 fun (v75 : Value) w76 =>
 TyP (.int .i64) v75 fun (n77 : Int) =>
 R (.bool (n77 == 5)) w76)
 (R (.bool false) w72))
 (R (.bool false) w69))
 (R (.bool false) w66))
 (R (.bool false) w62))
 (R (.bool false) w62))
 (R (.bool false) w59))
 (R (.bool false) w54))
 (R (.bool false) w54))
 (R (.bool false) w54))
 (R (.bool false) w54))
 (R (.bool false) w54))
 (R (.bool false) w54))
 (R (.bool false) w54))
 (R (.bool false) w54))
 (R (.bool false) w54))
 (R (.bool false) w54))
 (R (.bool false) w54))
 (ifB (t10.snd.fst == 1)
 (ifB (IntKind.i64.wrap (IntKind.i64.wrap (IntKind.i64.wrap (t16.fst + t16.snd.fst) + t16.snd.snd.fst) + t16.snd.snd.snd.fst) == 0)
 (ifB (!t19.snd.fst)
 (RunQ .val P (Instr.loadAt T_api_FetchReq (.pointer (some a20))) w54 fun (v78 : Value) =>
 RunQ .bool P (do (eqGuard .eql T_api_FetchReq (.tmp 0) (.tmp 0) v78 (.agg #[(.int .i64 0), (.int .i64 0), (.int .i64 0), (.int .i64 0), (.int .i64 0)])); (binOp .eql T_api_FetchReq v78 (.agg #[(.int .i64 0), (.int .i64 0), (.int .i64 0), (.int .i64 0), (.int .i64 0)]))) w54 fun (b79 : Bool) =>
 ifB b79
 (ifB ((↑t26.fst.len : Int) == 0)
 (ifB (!t26.snd.fst)
 (ifB (IntKind.i64.wrap ((↑t31.fst.len : Int) + (↑t31.snd.fst.len : Int)) == 0)
 (ifB (t31.snd.snd.fst == 0)
 (ifB (t35.fst == 0)
 (ifB (t35.snd.fst == 5)
 (ifB (t38.fst == 0)
 (ifB (!t38.snd.fst)
 (CallP P F_replica_Replica_Ready [(.pointer none)] w54 fun (v80 : Value) w81 =>
 TyP .bool v80 fun (b82 : Bool) =>
 ifB (!b82)
 (CallP P F_replica_Replica_Log [(.pointer none)] w81 fun (v83 : Value) w84 =>
 TyP .sl v83 fun (s85 : Sl) =>
 ifB ((↑s85.len : Int) == 0)
 (RunQ (.int .i64) P (Instr.loadAt T_api_Errno (.pointer (some (Go.Addr.add a50 2)))) w84 fun (n86 : Int) =>
 ifB (n86 == 5)
 (CallP P F_replica_Replica_Lead [(.pointer none), (.int .i64 1), (.slice none 0 0)] w84 fun (v87 : Value) w88 =>
 TyP (.int .i64) v87 fun (n89 : Int) =>
 ifB (n89 == 5)
 (CallP P F_replica_Replica_Follow [(.pointer none), (.int .i64 1)] w88 fun (v90 : Value) w91 =>
 TyP (.int .i64) v90 fun (n92 : Int) =>
 ifB (n92 == 5)
 (CallP P F_replica_Replica_Sync [(.pointer none), (.int .i64 1), (.slice none 0 0)] w91 fun (v93 : Value) w94 =>
 TyP (.int .i64) v93 fun (n95 : Int) =>
 ifB (n95 == 5)
 (RunQ .val P (Instr.loadAt T_api_FetchReply (.pointer (some (Go.Addr.add a0 17)))) w94 fun (v96 : Value) =>
 CallP P F_replica_Replica_Accept [(.pointer none), v96] w94 fun (v97 : Value) w98 =>
 TyP (.int .i64) v97 fun (n99 : Int) =>
 R (.bool (n99 == 5)) w98)
 (R (.bool false) w94))
 (R (.bool false) w91))
 (R (.bool false) w88))
 (R (.bool false) w84))
 (R (.bool false) w84))
 (R (.bool false) w81))
 (R (.bool false) w54))
 (R (.bool false) w54))
 (R (.bool false) w54))
 (R (.bool false) w54))
 (R (.bool false) w54))
 (R (.bool false) w54))
 (R (.bool false) w54))
 (R (.bool false) w54))
 (R (.bool false) w54))
 (R (.bool false) w54))
 (R (.bool false) w54))
 (R (.bool false) w54)))
 (R (.bool false) w54))
 (R (.bool false) w54))
 (R (.bool false) w54))
 (R (.bool false) w54)
theorem c_law14_ReplicaNone {R : Value → World → Prop} {x0 : Value} {x1 : Int} {x2 : Int} {w : World} (h : S_law14_ReplicaNone R x0 x1 x2 w) : CallP P F_law14_ReplicaNone [x0, .int .i64 x1, .int .i64 x2] w R := mkC (an := ⟨[(4, [(11, .bool)])], [], []⟩) Tryz.func10 (by kernel_rfl) h


/-- penstock/penstocklaw14.awake -/
def S_law14_awake (R : Value → World → Prop) (w : World) : Prop :=
 CallP P F_disk_New [] w fun (v0 : Value) w1 =>
 TyP .ptr v0 fun (p2 : Option Addr) =>
 CallP P F_replica_Open [(.pointer p2), (.string (ByteArray.mk #[112, 48])), (.int .i64 0), (.int .i64 0)] w1 fun (v3 : Value) w4 =>
 TupP [.ptr, (.int .i64)] v3 fun (t5 : Option Addr × Int × Unit) =>
 JoinP (T := Unit) (fun J6 =>
 ifB (Option.isNone t5.fst)
 (R (.bool false) w4)
 (ifB (t5.snd.fst != 0)
 (R (.bool false) w4)
 (RunK .sl P (Instr.buildSlice T_sl_int 1 #[(0, (.int .i64 0))]) w4 fun (s9 : Sl) w10 =>
 CallP P F_replica_Replica_Lead [(.pointer t5.fst), (.int .i64 1), s9.v] w10 fun (v11 : Value) w12 =>
 TyP (.int .i64) v11 fun (n13 : Int) =>
 ifB (n13 != 0)
 (R (.bool false) w12)
 (J6 (some ()) w12))))
 fun t7 w8 =>
 RunK .sl P (Instr.buildSlice T_sl_uint8 1 #[(0, (.int .u8 97))]) w8 fun (s14 : Sl) w15 =>
 RunK .sl P (convert T_sl_uint8 T_sl_uint8 s14.v) w15 fun (s16 : Sl) w17 =>
 RunK .sl P (Instr.buildSlice T_sl_sl_uint8 1 #[(0, s16.v)]) w17 fun (s18 : Sl) w19 =>
 CallP P F_replica_Replica_Produce [(.pointer t5.fst), (.agg #[(.int .i64 0), (.int .i64 0), (.int .u64 0), (.int .i64 0), (.int .i64 0), (.bool false), (.bool false), (.bool false), s18.v])] w19 fun (v20 : Value) w21 =>
 TupP [(.int .i64), (.int .i64)] v20 fun (t22 : Int × Int × Unit) =>
 CallP P F_replica_Replica_Marks [(.pointer t5.fst)] w21 fun (v23 : Value) w24 =>
 TupP [(.int .i64), (.int .i64), (.int .i64), (.int .i64)] v23 fun (t25 : Int × Int × Int × Int × Unit) =>
 ifB (t22.snd.fst == 0)
 (ifB (t22.fst == 0)
 (ifB (t25.fst == 0)
 (ifB (t25.snd.fst == 1)
 (ifB (t25.snd.snd.fst == 1)
 (ifB (t25.snd.snd.snd.fst == 1)
 (CallP P F_replica_Replica_Ready [(.pointer t5.fst)] w24 fun (v26 : Value) w27 =>
 TyP .bool v26 fun (b28 : Bool) =>
 R (.bool b28) w27)
 (R (.bool false) w24))
 (R (.bool false) w24))
 (R (.bool false) w24))
 (R (.bool false) w24))
 (R (.bool false) w24))
 (R (.bool false) w24)
theorem c_law14_awake {R : Value → World → Prop} {w : World} (h : S_law14_awake R  w) : CallP P F_law14_awake [] w R := mkC (an := ⟨[(4, [])], [], []⟩) Tryz.func14 (by kernel_rfl) h


end Go.Proofs.YtnjadekngjgjcaaGreatDoor
