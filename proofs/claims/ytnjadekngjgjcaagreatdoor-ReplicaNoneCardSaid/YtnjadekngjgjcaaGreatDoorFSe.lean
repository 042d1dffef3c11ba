/- The functions of the program as predicates over worlds, written by a program of mine (PkPrint); each is held against the code by the kernel. -/
import Derived.Test.YtnjadekngjgjcaaGreatDoorN
namespace Go.Proofs.YtnjadekngjgjcaaGreatDoor
open Go Go.Pk
/-- penstock/batch.Encode -/
def S_batch_Encode (R : Value → World → Prop) (x0 : Value) (w : World) : Prop :=
 RunK .addr P (Instr.box T_api_Batch x0) w fun (a0 : Addr) w1 =>
 RunQ .val P (Instr.loadAt T_api_Batch (.pointer (some a0))) w1 fun (v2 : Value) =>
 CallP P F_batch_Check [v2] w1 fun (v3 : Value) w4 =>
 TyP (.int .i64) v3 fun (n5 : Int) =>
 ifB (n5 != 0)
 (R (.tuple #[(.slice none 0 0), (.int .i64 n5)]) w4)
 (CallP P F_codec_NewWriter [] w4 fun (v6 : Value) w7 =>
 TyP .ptr v6 fun (p8 : Option Addr) =>
 RunQ (.int .i64) P (Instr.loadAt T_int (.pointer (some (Go.Addr.add a0 0)))) w7 fun (n9 : Int) =>
 CallP P F_codec_Writer_Int [(.pointer p8), (.int .i64 n9)] w7 fun (v10 : Value) w11 =>
 TupP [] v10 fun (t12 : Unit) =>
 RunQ (.int .i64) P (Instr.loadAt T_int (.pointer (some (Go.Addr.add a0 1)))) w11 fun (n13 : Int) =>
 CallP P F_codec_Writer_Int [(.pointer p8), (.int .i64 n13)] w11 fun (v14 : Value) w15 =>
 TupP [] v14 fun (t16 : Unit) =>
 RunQ (.int .u64) P (Instr.loadAt T_uint64 (.pointer (some (Go.Addr.add a0 2)))) w15 fun (n17 : Int) =>
 CallP P F_codec_Writer_Uint [(.pointer p8), (.int .u64 n17)] w15 fun (v18 : Value) w19 =>
 TupP [] v18 fun (t20 : Unit) =>
 RunQ (.int .i64) P (Instr.loadAt T_int (.pointer (some (Go.Addr.add a0 3)))) w19 fun (n21 : Int) =>
 CallP P F_codec_Writer_Int [(.pointer p8), (.int .i64 n21)] w19 fun (v22 : Value) w23 =>
 TupP [] v22 fun (t24 : Unit) =>
 RunQ (.int .i64) P (Instr.loadAt T_int (.pointer (some (Go.Addr.add a0 4)))) w23 fun (n25 : Int) =>
 CallP P F_codec_Writer_Int [(.pointer p8), (.int .i64 n25)] w23 fun (v26 : Value) w27 =>
 TupP [] v26 fun (t28 : Unit) =>
 RunQ .bool P (Instr.loadAt T_bool (.pointer (some (Go.Addr.add a0 5)))) w27 fun (b29 : Bool) =>
 RunQ .bool P (Instr.loadAt T_bool (.pointer (some (Go.Addr.add a0 6)))) w27 fun (b30 : Bool) =>
 RunQ .bool P (Instr.loadAt T_bool (.pointer (some (Go.Addr.add a0 7)))) w27 fun (b31 : Bool) =>
 RunK .sl P (Instr.buildSlice T_sl_bool 3 #[(0, (.bool b29)), (1, (.bool b30)), (2, (.bool b31))]) w27 fun (s32 : Sl) w33 =>
 LoopP (T := Int × Unit) (some (0, ())) w33 fun next34 t35 w36 =>
 ifB (decide (t35.fst < (↑s32.len : Int)))
 (RunQ .addr P (Instr.indexAt T_sl_bool s32.v (.int .i64 t35.fst)) w36 fun (a37 : Addr) =>
 RunQ .bool P (Instr.loadAt T_bool (.pointer (some a37))) w36 fun (b38 : Bool) =>
 CallP P F_codec_Writer_Flag [(.pointer p8), (.bool b38)] w36 fun (v39 : Value) w40 =>
 TupP [] v39 fun (t41 : Unit) =>
 next34 (some ((IntKind.i64.wrap (t35.fst + 1)), ())) w40)
 (RunQ .sl P (Instr.loadAt T_sl_sl_uint8 (.pointer (some (Go.Addr.add a0 8)))) w36 fun (s42 : Sl) =>
 CallP P F_codec_Writer_Uint [(.pointer p8), (.int .u64 (IntKind.u64.wrap (↑s42.len : Int)))] w36 fun (v43 : Value) w44 =>
 TupP [] v43 fun (t45 : Unit) =>
 RunQ .sl P (Instr.loadAt T_sl_sl_uint8 (.pointer (some (Go.Addr.add a0 8)))) w44 fun (s46 : Sl) =>
 LoopP (T := Int × Unit) (some (0, ())) w44 fun next47 t48 w49 =>
 ifB (decide (t48.fst < (↑s46.len : Int)))
 (RunQ .addr P (Instr.indexAt T_sl_sl_uint8 s46.v (.int .i64 t48.fst)) w49 fun (a50 : Addr) =>
 RunQ .sl P (Instr.loadAt T_sl_uint8 (.pointer (some a50))) w49 fun (s51 : Sl) =>
 CallP P F_codec_Writer_Bytes [(.pointer p8), s51.v] w49 fun (v52 : Value) w53 =>
 TupP [] v52 fun (t54 : Unit) =>
 next47 (some ((IntKind.i64.wrap (t48.fst + 1)), ())) w53)
 (CallP P F_codec_Writer_Out [(.pointer p8)] w49 fun (v55 : Value) w56 =>
 TupP [.sl, (.int .i64)] v55 fun (t57 : Sl × Int × Unit) =>
 R (.tuple #[t57.fst.v, (.int .i64 t57.snd.fst)]) w56)))
theorem c_batch_Encode {R : Value → World → Prop} {x0 : Value} {w : World} (h : S_batch_Encode R x0 w) : CallP P F_batch_Encode [x0] w R := mkC (an := ⟨[], [(11, [(44, (.int .i64))]), (17, [(61, (.int .i64))])], []⟩) Tryz.func104 (by kernel_rfl) h


/-- penstock/batch.Size -/
def S_batch_Size (R : Value → World → Prop) (x0 : Value) (w : World) : Prop :=
 RunK .addr P (Instr.box T_api_Batch x0) w fun (a0 : Addr) w1 =>
 RunQ .bool P (Instr.loadAt T_bool (.pointer (some (Go.Addr.add a0 6)))) w1 fun (b2 : Bool) =>
 ifB b2
 (R (.int .i64 1) w1)
 (RunQ .sl P (Instr.loadAt T_sl_sl_uint8 (.pointer (some (Go.Addr.add a0 8)))) w1 fun (s3 : Sl) =>
 R (.int .i64 ((↑s3.len : Int))) w1)
theorem c_batch_Size {R : Value → World → Prop} {x0 : Value} {w : World} (h : S_batch_Size R x0 w) : CallP P F_batch_Size [x0] w R := mkC (an := ⟨[], [], []⟩) Tryz.func59 (by kernel_rfl) h


/-- penstock/batch.Decode -/
def S_batch_Decode (R : Value → World → Prop) (x0 : Sl) (w : World) : Prop :=
 RunK .addr P (Instr.alloc T_api_Batch true (.tuple #[])) w fun (a0 : Addr) w1 =>
 CallP P F_codec_NewReader [x0.v] w1 fun (v2 : Value) w3 =>
 TyP .ptr v2 fun (p4 : Option Addr) =>
 CallP P F_codec_Reader_Int [(.pointer p4)] w3 fun (v5 : Value) w6 =>
 TyP (.int .i64) v5 fun (n7 : Int) =>
 CallP P F_codec_Reader_Int [(.pointer p4)] w6 fun (v8 : Value) w9 =>
 TyP (.int .i64) v8 fun (n10 : Int) =>
 CallP P F_codec_Reader_Uint [(.pointer p4)] w9 fun (v11 : Value) w12 =>
 TyP (.int .u64) v11 fun (n13 : Int) =>
 CallP P F_codec_Reader_Int [(.pointer p4)] w12 fun (v14 : Value) w15 =>
 TyP (.int .i64) v14 fun (n16 : Int) =>
 CallP P F_codec_Reader_Int [(.pointer p4)] w15 fun (v17 : Value) w18 =>
 TyP (.int .i64) v17 fun (n19 : Int) =>
 CallP P F_codec_Reader_Flag [(.pointer p4)] w18 fun (v20 : Value) w21 =>
 TyP .bool v20 fun (b22 : Bool) =>
 CallP P F_codec_Reader_Flag [(.pointer p4)] w21 fun (v23 : Value) w24 =>
 TyP .bool v23 fun (b25 : Bool) =>
 CallP P F_codec_Reader_Flag [(.pointer p4)] w24 fun (v26 : Value) w27 =>
 TyP .bool v26 fun (b28 : Bool) =>
 RunK .addr P (Instr.alloc T_api_Batch true (.tuple #[])) w27 fun (a29 : Addr) w30 =>
 StoreP P T_api_Batch (.pointer (some a29)) (.agg #[(.int .i64 n7), (.int .i64 n10), (.int .u64 n13), (.int .i64 n16), (.int .i64 n19), (.bool b22), (.bool b25), (.bool b28), (.slice none 0 0)]) w30 fun w31 =>
 CallP P F_codec_Reader_Uint [(.pointer p4)] w31 fun (v32 : Value) w33 =>
 TyP (.int .u64) v32 fun (n34 : Int) =>
 JoinP (T := Unit) (fun J35 =>
 CallP P F_codec_Reader_State [(.pointer p4)] w33 fun (v38 : Value) w39 =>
 TupP [(.int .i64), (.int .i64), (.int .i64)] v38 fun (t40 : Int × Int × Int × Unit) =>
 ifB (t40.snd.snd.fst == 0)
 (ifB (decide (n34 > 16))
 (StoreP P T_api_Batch (.pointer (some a0)) (.agg #[(.int .i64 0), (.int .i64 0), (.int .u64 0), (.int .i64 0), (.int .i64 0), (.bool false), (.bool false), (.bool false), (.slice none 0 0)]) w39 fun w41 =>
 LoadK .val P T_api_Batch (.pointer (some a0)) w41 fun (v42 : Value) =>
 R (.tuple #[v42, (.int .i64 2)]) w41)
 (J35 (some ()) w39))
 (J35 (some ()) w39))
 fun t36 w37 =>
 LoopP (T := Int × Unit) (some (0, ())) w37 fun next43 t44 w45 =>
 ifB (decide (t44.fst < n34))
 (∃ S46 : World → Prop, (S46 w45.drew) ∧
 (RunQ .sl P (Instr.loadAt T_sl_sl_uint8 (.pointer (some (Go.Addr.add a29 8)))) w45.drew fun (s47 : Sl) =>
 (S46 w45.drew) ∧
 CallP P F_codec_Reader_Bytes [(.pointer p4)] w45.drew fun (v48 : Value) w49 =>
 TyP .sl v48 fun (s50 : Sl) =>
 (S46 w49) ∧
 RunK .sl P (Instr.buildSlice T_sl_sl_uint8 1 #[(0, s50.v)]) w49 fun (s51 : Sl) w52 =>
 (S46 w52) ∧
 RunK .sl P (Builtin.append_ #[T_sl_sl_uint8, T_sl_sl_uint8] T_sl_sl_uint8 #[s47.v, s51.v]) w52 fun (s53 : Sl) w54 =>
 (S46 w54) ∧
 StoreP P T_sl_sl_uint8 (.pointer (some (Go.Addr.add a29 8))) s53.v w54 fun w55 =>
 (S46 w55) ∧
 next43 (some ((IntKind.u64.wrap (t44.fst + 1)), ())) w55) ∧
 (CallP P F_codec_Reader_Bytes [(.pointer p4)] w45.drew fun (v56 : Value) w57 =>
 TyP .sl v56 fun (s58 : Sl) =>
 (S46 w57) ∧
 (RunQ .sl P (Instr.loadAt T_sl_sl_uint8 (.pointer (some (Go.Addr.add a29 8)))) w57 fun (s59 : Sl) =>
 (S46 w57) ∧
 RunK .sl P (Instr.buildSlice T_sl_sl_uint8 1 #[(0, s58.v)]) w57 fun (s60 : Sl) w61 =>
 (S46 w61) ∧
 RunK .sl P (Builtin.append_ #[T_sl_sl_uint8, T_sl_sl_uint8] T_sl_sl_uint8 #[s59.v, s60.v]) w61 fun (s62 : Sl) w63 =>
 (S46 w63) ∧
 StoreP P T_sl_sl_uint8 (.pointer (some (Go.Addr.add a29 8))) s62.v w63 fun w64 =>
 (S46 w64) ∧
 next43 (some ((IntKind.u64.wrap (t44.fst + 1)), ())) w64) ∧
 (RunK .sl P (Instr.buildSlice T_sl_sl_uint8 1 #[(0, s58.v)]) w57 fun (s65 : Sl) w66 =>
 (S46 w66) ∧
 RunQ .sl P (Instr.loadAt T_sl_sl_uint8 (.pointer (some (Go.Addr.add a29 8)))) w66 fun (s67 : Sl) =>
 (S46 w66) ∧
 RunK .sl P (Builtin.append_ #[T_sl_sl_uint8, T_sl_sl_uint8] T_sl_sl_uint8 #[s67.v, s65.v]) w66 fun (s68 : Sl) w69 =>
 (S46 w69) ∧
 StoreP P T_sl_sl_uint8 (.pointer (some (Go.Addr.add a29 8))) s68.v w69 fun w70 =>
 (S46 w70) ∧
 next43 (some ((IntKind.u64.wrap (t44.fst + 1)), ())) w70) ∧
 True) ∧
 True)
 (CallP P F_codec_Reader_End [(.pointer p4)] w45 fun (v71 : Value) w72 =>
 TyP (.int .i64) v71 fun (n73 : Int) =>
 ifB (n73 != 0)
 (StoreP P T_api_Batch (.pointer (some a0)) (.agg #[(.int .i64 0), (.int .i64 0), (.int .u64 0), (.int .i64 0), (.int .i64 0), (.bool false), (.bool false), (.bool false), (.slice none 0 0)]) w72 fun w74 =>
 LoadK .val P T_api_Batch (.pointer (some a0)) w74 fun (v75 : Value) =>
 R (.tuple #[v75, (.int .i64 n73)]) w74)
 (RunQ .val P (Instr.loadAt T_api_Batch (.pointer (some a29))) w72 fun (v76 : Value) =>
 CallP P F_batch_Check [v76] w72 fun (v77 : Value) w78 =>
 TyP (.int .i64) v77 fun (n79 : Int) =>
 ifB (n79 != 0)
 (StoreP P T_api_Batch (.pointer (some a0)) (.agg #[(.int .i64 0), (.int .i64 0), (.int .u64 0), (.int .i64 0), (.int .i64 0), (.bool false), (.bool false), (.bool false), (.slice none 0 0)]) w78 fun w80 =>
 LoadK .val P T_api_Batch (.pointer (some a0)) w80 fun (v81 : Value) =>
 R (.tuple #[v81, (.int .i64 n79)]) w80)
 (RunQ .val P (Instr.loadAt T_api_Batch (.pointer (some a29))) w78 fun (v82 : Value) =>
 StoreP P T_api_Batch (.pointer (some a0)) v82 w78 fun w83 =>
 LoadK .val P T_api_Batch (.pointer (some a0)) w83 fun (v84 : Value) =>
 R (.tuple #[v84, (.int .i64 0)]) w83)))
theorem c_batch_Decode {R : Value → World → Prop} {x0 : Sl} {w : World} (h : S_batch_Decode R x0 w) : CallP P F_batch_Decode [x0.v] w R := mkC (an := ⟨[(7, [])], [(8, [(47, (.int .u64))])], [9]⟩) Tryz.func122 (by kernel_rfl) h


/-- penstock/batch.Check -/
def S_batch_Check (R : Value → World → Prop) (x0 : Value) (w : World) : Prop :=
 RunK .addr P (Instr.box T_api_Batch x0) w fun (a0 : Addr) w1 =>
 JoinP (T := Unit) (fun J2 =>
 RunQ (.int .i64) P (Instr.loadAt T_int (.pointer (some (Go.Addr.add a0 0)))) w1 fun (n5 : Int) =>
 ifB (decide (n5 < 0))
 (R (.int .i64 1) w1)
 (RunQ (.int .i64) P (Instr.loadAt T_int (.pointer (some (Go.Addr.add a0 1)))) w1 fun (n6 : Int) =>
 ifB (decide (n6 < 0))
 (R (.int .i64 1) w1)
 (RunQ (.int .i64) P (Instr.loadAt T_int (.pointer (some (Go.Addr.add a0 3)))) w1 fun (n7 : Int) =>
 ifB (decide (n7 < 0))
 (R (.int .i64 1) w1)
 (RunQ (.int .i64) P (Instr.loadAt T_int (.pointer (some (Go.Addr.add a0 3)))) w1 fun (n8 : Int) =>
 ifB (decide (n8 > 1000))
 (R (.int .i64 1) w1)
 (RunQ (.int .i64) P (Instr.loadAt T_int (.pointer (some (Go.Addr.add a0 4)))) w1 fun (n9 : Int) =>
 ifB (decide (n9 < 0))
 (R (.int .i64 1) w1)
 (RunQ (.int .u64) P (Instr.loadAt T_uint64 (.pointer (some (Go.Addr.add a0 2)))) w1 fun (n10 : Int) =>
 ifB (decide (n10 > 1000))
 (R (.int .i64 1) w1)
 (RunQ .bool P (Instr.loadAt T_bool (.pointer (some (Go.Addr.add a0 6)))) w1 fun (b11 : Bool) =>
 ifB b11
 (RunQ .sl P (Instr.loadAt T_sl_sl_uint8 (.pointer (some (Go.Addr.add a0 8)))) w1 fun (s12 : Sl) =>
 ifB (decide ((↑s12.len : Int) > 0))
 (R (.int .i64 7) w1)
 (RunQ .bool P (Instr.loadAt T_bool (.pointer (some (Go.Addr.add a0 5)))) w1 fun (b13 : Bool) =>
 ifB (!b13)
 (R (.int .i64 7) w1)
 (RunQ (.int .u64) P (Instr.loadAt T_uint64 (.pointer (some (Go.Addr.add a0 2)))) w1 fun (n14 : Int) =>
 ifB (n14 == 0)
 (R (.int .i64 7) w1)
 (RunQ (.int .i64) P (Instr.loadAt T_int (.pointer (some (Go.Addr.add a0 4)))) w1 fun (n15 : Int) =>
 ifB (decide (n15 > 0))
 (R (.int .i64 7) w1)
 (RunQ .bool P (Instr.loadAt T_bool (.pointer (some (Go.Addr.add a0 6)))) w1 fun (b16 : Bool) =>
 ifB (!b16)
 (RunQ .sl P (Instr.loadAt T_sl_sl_uint8 (.pointer (some (Go.Addr.add a0 8)))) w1 fun (s17 : Sl) =>
 ifB ((↑s17.len : Int) == 0)
 (R (.int .i64 7) w1)
 (RunQ .bool P (Instr.loadAt T_bool (.pointer (some (Go.Addr.add a0 7)))) w1 fun (b18 : Bool) =>
 ifB b18
 (R (.int .i64 7) w1)
 (RunQ .bool P (Instr.loadAt T_bool (.pointer (some (Go.Addr.add a0 5)))) w1 fun (b19 : Bool) =>
 ifB b19
 (RunQ (.int .u64) P (Instr.loadAt T_uint64 (.pointer (some (Go.Addr.add a0 2)))) w1 fun (n20 : Int) =>
 ifB (n20 == 0)
 (R (.int .i64 7) w1)
 (RunQ (.int .u64) P (Instr.loadAt T_uint64 (.pointer (some (Go.Addr.add a0 2)))) w1 fun (n21 : Int) =>
 ifB (n21 == 0)
 (RunQ (.int .i64) P (Instr.loadAt T_int (.pointer (some (Go.Addr.add a0 3)))) w1 fun (n22 : Int) =>
 ifB (decide (n22 > 0))
 (R (.int .i64 7) w1)
 (RunQ (.int .i64) P (Instr.loadAt T_int (.pointer (some (Go.Addr.add a0 4)))) w1 fun (n23 : Int) =>
 ifB (decide (n23 > 0))
 (R (.int .i64 7) w1)
 (RunQ .sl P (Instr.loadAt T_sl_sl_uint8 (.pointer (some (Go.Addr.add a0 8)))) w1 fun (s24 : Sl) =>
 ifB (decide ((↑s24.len : Int) > 16))
 (R (.int .i64 2) w1)
 (J2 (some ()) w1))))
 (RunQ .sl P (Instr.loadAt T_sl_sl_uint8 (.pointer (some (Go.Addr.add a0 8)))) w1 fun (s25 : Sl) =>
 ifB (decide ((↑s25.len : Int) > 16))
 (R (.int .i64 2) w1)
 (J2 (some ()) w1))))
 (RunQ (.int .u64) P (Instr.loadAt T_uint64 (.pointer (some (Go.Addr.add a0 2)))) w1 fun (n26 : Int) =>
 ifB (n26 == 0)
 (RunQ (.int .i64) P (Instr.loadAt T_int (.pointer (some (Go.Addr.add a0 3)))) w1 fun (n27 : Int) =>
 ifB (decide (n27 > 0))
 (R (.int .i64 7) w1)
 (RunQ (.int .i64) P (Instr.loadAt T_int (.pointer (some (Go.Addr.add a0 4)))) w1 fun (n28 : Int) =>
 ifB (decide (n28 > 0))
 (R (.int .i64 7) w1)
 (RunQ .sl P (Instr.loadAt T_sl_sl_uint8 (.pointer (some (Go.Addr.add a0 8)))) w1 fun (s29 : Sl) =>
 ifB (decide ((↑s29.len : Int) > 16))
 (R (.int .i64 2) w1)
 (J2 (some ()) w1))))
 (RunQ .sl P (Instr.loadAt T_sl_sl_uint8 (.pointer (some (Go.Addr.add a0 8)))) w1 fun (s30 : Sl) =>
 ifB (decide ((↑s30.len : Int) > 16))
 (R (.int .i64 2) w1)
 (J2 (some ()) w1))))))
 (RunQ .bool P (Instr.loadAt T_bool (.pointer (some (Go.Addr.add a0 5)))) w1 fun (b31 : Bool) =>
 ifB b31
 (RunQ (.int .u64) P (Instr.loadAt T_uint64 (.pointer (some (Go.Addr.add a0 2)))) w1 fun (n32 : Int) =>
 ifB (n32 == 0)
 (R (.int .i64 7) w1)
 (RunQ (.int .u64) P (Instr.loadAt T_uint64 (.pointer (some (Go.Addr.add a0 2)))) w1 fun (n33 : Int) =>
 ifB (n33 == 0)
 (RunQ (.int .i64) P (Instr.loadAt T_int (.pointer (some (Go.Addr.add a0 3)))) w1 fun (n34 : Int) =>
 ifB (decide (n34 > 0))
 (R (.int .i64 7) w1)
 (RunQ (.int .i64) P (Instr.loadAt T_int (.pointer (some (Go.Addr.add a0 4)))) w1 fun (n35 : Int) =>
 ifB (decide (n35 > 0))
 (R (.int .i64 7) w1)
 (RunQ .sl P (Instr.loadAt T_sl_sl_uint8 (.pointer (some (Go.Addr.add a0 8)))) w1 fun (s36 : Sl) =>
 ifB (decide ((↑s36.len : Int) > 16))
 (R (.int .i64 2) w1)
 (J2 (some ()) w1))))
 (RunQ .sl P (Instr.loadAt T_sl_sl_uint8 (.pointer (some (Go.Addr.add a0 8)))) w1 fun (s37 : Sl) =>
 ifB (decide ((↑s37.len : Int) > 16))
 (R (.int .i64 2) w1)
 (J2 (some ()) w1))))
 (RunQ (.int .u64) P (Instr.loadAt T_uint64 (.pointer (some (Go.Addr.add a0 2)))) w1 fun (n38 : Int) =>
 ifB (n38 == 0)
 (RunQ (.int .i64) P (Instr.loadAt T_int (.pointer (some (Go.Addr.add a0 3)))) w1 fun (n39 : Int) =>
 ifB (decide (n39 > 0))
 (R (.int .i64 7) w1)
 (RunQ (.int .i64) P (Instr.loadAt T_int (.pointer (some (Go.Addr.add a0 4)))) w1 fun (n40 : Int) =>
 ifB (decide (n40 > 0))
 (R (.int .i64 7) w1)
 (RunQ .sl P (Instr.loadAt T_sl_sl_uint8 (.pointer (some (Go.Addr.add a0 8)))) w1 fun (s41 : Sl) =>
 ifB (decide ((↑s41.len : Int) > 16))
 (R (.int .i64 2) w1)
 (J2 (some ()) w1))))
 (RunQ .sl P (Instr.loadAt T_sl_sl_uint8 (.pointer (some (Go.Addr.add a0 8)))) w1 fun (s42 : Sl) =>
 ifB (decide ((↑s42.len : Int) > 16))
 (R (.int .i64 2) w1)
 (J2 (some ()) w1)))))))))
 (RunQ .bool P (Instr.loadAt T_bool (.pointer (some (Go.Addr.add a0 6)))) w1 fun (b43 : Bool) =>
 ifB (!b43)
 (RunQ .sl P (Instr.loadAt T_sl_sl_uint8 (.pointer (some (Go.Addr.add a0 8)))) w1 fun (s44 : Sl) =>
 ifB ((↑s44.len : Int) == 0)
 (R (.int .i64 7) w1)
 (RunQ .bool P (Instr.loadAt T_bool (.pointer (some (Go.Addr.add a0 7)))) w1 fun (b45 : Bool) =>
 ifB b45
 (R (.int .i64 7) w1)
 (RunQ .bool P (Instr.loadAt T_bool (.pointer (some (Go.Addr.add a0 5)))) w1 fun (b46 : Bool) =>
 ifB b46
 (RunQ (.int .u64) P (Instr.loadAt T_uint64 (.pointer (some (Go.Addr.add a0 2)))) w1 fun (n47 : Int) =>
 ifB (n47 == 0)
 (R (.int .i64 7) w1)
 (RunQ (.int .u64) P (Instr.loadAt T_uint64 (.pointer (some (Go.Addr.add a0 2)))) w1 fun (n48 : Int) =>
 ifB (n48 == 0)
 (RunQ (.int .i64) P (Instr.loadAt T_int (.pointer (some (Go.Addr.add a0 3)))) w1 fun (n49 : Int) =>
 ifB (decide (n49 > 0))
 (R (.int .i64 7) w1)
 (RunQ (.int .i64) P (Instr.loadAt T_int (.pointer (some (Go.Addr.add a0 4)))) w1 fun (n50 : Int) =>
 ifB (decide (n50 > 0))
 (R (.int .i64 7) w1)
 (RunQ .sl P (Instr.loadAt T_sl_sl_uint8 (.pointer (some (Go.Addr.add a0 8)))) w1 fun (s51 : Sl) =>
 ifB (decide ((↑s51.len : Int) > 16))
 (R (.int .i64 2) w1)
 (J2 (some ()) w1))))
 (RunQ .sl P (Instr.loadAt T_sl_sl_uint8 (.pointer (some (Go.Addr.add a0 8)))) w1 fun (s52 : Sl) =>
 ifB (decide ((↑s52.len : Int) > 16))
 (R (.int .i64 2) w1)
 (J2 (some ()) w1))))
 (RunQ (.int .u64) P (Instr.loadAt T_uint64 (.pointer (some (Go.Addr.add a0 2)))) w1 fun (n53 : Int) =>
 ifB (n53 == 0)
 (RunQ (.int .i64) P (Instr.loadAt T_int (.pointer (some (Go.Addr.add a0 3)))) w1 fun (n54 : Int) =>
 ifB (decide (n54 > 0))
 (R (.int .i64 7) w1)
 (RunQ (.int .i64) P (Instr.loadAt T_int (.pointer (some (Go.Addr.add a0 4)))) w1 fun (n55 : Int) =>
 ifB (decide (n55 > 0))
 (R (.int .i64 7) w1)
 (RunQ .sl P (Instr.loadAt T_sl_sl_uint8 (.pointer (some (Go.Addr.add a0 8)))) w1 fun (s56 : Sl) =>
 ifB (decide ((↑s56.len : Int) > 16))
 (R (.int .i64 2) w1)
 (J2 (some ()) w1))))
 (RunQ .sl P (Instr.loadAt T_sl_sl_uint8 (.pointer (some (Go.Addr.add a0 8)))) w1 fun (s57 : Sl) =>
 ifB (decide ((↑s57.len : Int) > 16))
 (R (.int .i64 2) w1)
 (J2 (some ()) w1))))))
 (RunQ .bool P (Instr.loadAt T_bool (.pointer (some (Go.Addr.add a0 5)))) w1 fun (b58 : Bool) =>
 ifB b58
 (RunQ (.int .u64) P (Instr.loadAt T_uint64 (.pointer (some (Go.Addr.add a0 2)))) w1 fun (n59 : Int) =>
 ifB (n59 == 0)
 (R (.int .i64 7) w1)
 (RunQ (.int .u64) P (Instr.loadAt T_uint64 (.pointer (some (Go.Addr.add a0 2)))) w1 fun (n60 : Int) =>
 ifB (n60 == 0)
 (RunQ (.int .i64) P (Instr.loadAt T_int (.pointer (some (Go.Addr.add a0 3)))) w1 fun (n61 : Int) =>
 ifB (decide (n61 > 0))
 (R (.int .i64 7) w1)
 (RunQ (.int .i64) P (Instr.loadAt T_int (.pointer (some (Go.Addr.add a0 4)))) w1 fun (n62 : Int) =>
 ifB (decide (n62 > 0))
 (R (.int .i64 7) w1)
 (RunQ .sl P (Instr.loadAt T_sl_sl_uint8 (.pointer (some (Go.Addr.add a0 8)))) w1 fun (s63 : Sl) =>
 ifB (decide ((↑s63.len : Int) > 16))
 (R (.int .i64 2) w1)
 (J2 (some ()) w1))))
 (RunQ .sl P (Instr.loadAt T_sl_sl_uint8 (.pointer (some (Go.Addr.add a0 8)))) w1 fun (s64 : Sl) =>
 ifB (decide ((↑s64.len : Int) > 16))
 (R (.int .i64 2) w1)
 (J2 (some ()) w1))))
 (RunQ (.int .u64) P (Instr.loadAt T_uint64 (.pointer (some (Go.Addr.add a0 2)))) w1 fun (n65 : Int) =>
 ifB (n65 == 0)
 (RunQ (.int .i64) P (Instr.loadAt T_int (.pointer (some (Go.Addr.add a0 3)))) w1 fun (n66 : Int) =>
 ifB (decide (n66 > 0))
 (R (.int .i64 7) w1)
 (RunQ (.int .i64) P (Instr.loadAt T_int (.pointer (some (Go.Addr.add a0 4)))) w1 fun (n67 : Int) =>
 ifB (decide (n67 > 0))
 (R (.int .i64 7) w1)
 (RunQ .sl P (Instr.loadAt T_sl_sl_uint8 (.pointer (some (Go.Addr.add a0 8)))) w1 fun (s68 : Sl) =>
 ifB (decide ((↑s68.len : Int) > 16))
 (R (.int .i64 2) w1)
 (J2 (some ()) w1))))
 (RunQ .sl P (Instr.loadAt T_sl_sl_uint8 (.pointer (some (Go.Addr.add a0 8)))) w1 fun (s69 : Sl) =>
 ifB (decide ((↑s69.len : Int) > 16))
 (R (.int .i64 2) w1)
 (J2 (some ()) w1))))))))))))
 fun t3 w4 =>
 RunQ .sl P (Instr.loadAt T_sl_sl_uint8 (.pointer (some (Go.Addr.add a0 8)))) w4 fun (s70 : Sl) =>
 LoopP (T := Int × Unit) (some (0, ())) w4 fun next71 t72 w73 =>
 ifB (decide (t72.fst < (↑s70.len : Int)))
 (RunQ .addr P (Instr.indexAt T_sl_sl_uint8 s70.v (.int .i64 t72.fst)) w73 fun (a74 : Addr) =>
 RunQ .sl P (Instr.loadAt T_sl_uint8 (.pointer (some a74))) w73 fun (s75 : Sl) =>
 ifB (decide ((↑s75.len : Int) > 64))
 (R (.int .i64 2) w73)
 (next71 (some ((IntKind.i64.wrap (t72.fst + 1)), ())) w73))
 (R (.int .i64 0) w73)
theorem c_batch_Check {R : Value → World → Prop} {x0 : Value} {w : World} (h : S_batch_Check R x0 w) : CallP P F_batch_Check [x0] w R := mkC (an := ⟨[(10, [])], [(11, [(99, (.int .i64))])], []⟩) Tryz.func93 (by kernel_rfl) h


/-- penstock/codec.NewWriter -/
def S_codec_NewWriter (R : Value → World → Prop) (w : World) : Prop :=
 RunK .addr P (Instr.box T_codec_Writer (.agg #[(.slice none 0 0), (.int .i64 0)])) w fun (a0 : Addr) w1 =>
 R (.pointer (some a0)) w1
theorem c_codec_NewWriter {R : Value → World → Prop} {w : World} (h : S_codec_NewWriter R  w) : CallP P F_codec_NewWriter [] w R := mkC (an := ⟨[], [], []⟩) Tryz.func127 (by kernel_rfl) h


/-- (*penstock/codec.Writer).Int -/
def S_codec_Writer_Int (R : Value → World → Prop) (x0 : Option Addr) (x1 : Int) (w : World) : Prop :=
 CallP P F_codec_Writer_Uint [(.pointer x0), (.int .u64 (IntKind.u64.wrap (↑(BitVec.ofInt 64 (IntKind.u64.wrap (IntKind.u64.wrap x1 * 2 ^ 1)) ^^^ BitVec.ofInt 64 (IntKind.u64.wrap (Int.fdiv x1 (2 ^ 63)))).toNat : Int)))] w fun (v0 : Value) w1 =>
 TupP [] v0 fun (t2 : Unit) =>
 R (.tuple #[]) w1
theorem c_codec_Writer_Int {R : Value → World → Prop} {x0 : Option Addr} {x1 : Int} {w : World} (h : S_codec_Writer_Int R x0 x1 w) : CallP P F_codec_Writer_Int [.pointer x0, .int .i64 x1] w R := mkC (an := ⟨[], [], []⟩) Tryz.func128 (by kernel_rfl) h


/-- (*penstock/codec.Writer).Uint -/
def S_codec_Writer_Uint (R : Value → World → Prop) (x0 : Option Addr) (x1 : Int) (w : World) : Prop :=
 ifB (Option.isNone x0)
 (R (.tuple #[]) w)
 (LoopP (T := Int × Unit) (some (x1, ())) w fun next0 t1 w2 =>
 ifB (decide (t1.fst > 127))
 (nilCk x0 fun (a3 : Addr) =>
 RunQ .sl P (Instr.loadAt T_sl_uint8 (.pointer (some (a3.add 0)))) w2 fun (s4 : Sl) =>
 RunK .sl P (Instr.buildSlice T_sl_uint8 1 #[(0, (.int .u8 (IntKind.u8.wrap (↑(BitVec.ofInt 8 (IntKind.u8.wrap t1.fst) ||| BitVec.ofInt 8 128).toNat : Int))))]) w2 fun (s5 : Sl) w6 =>
 RunK .sl P (Builtin.append_ #[T_sl_uint8, T_sl_uint8] T_sl_uint8 #[s4.v, s5.v]) w6 fun (s7 : Sl) w8 =>
 nilCk x0 fun (a9 : Addr) =>
 StoreP P T_sl_uint8 (.pointer (some (a9.add 0))) s7.v w8 fun w10 =>
 next0 (some ((Int.fdiv t1.fst (2 ^ 7)), ())) w10)
 (nilCk x0 fun (a11 : Addr) =>
 RunQ .sl P (Instr.loadAt T_sl_uint8 (.pointer (some (a11.add 0)))) w2 fun (s12 : Sl) =>
 RunK .sl P (Instr.buildSlice T_sl_uint8 1 #[(0, (.int .u8 (IntKind.u8.wrap t1.fst)))]) w2 fun (s13 : Sl) w14 =>
 RunK .sl P (Builtin.append_ #[T_sl_uint8, T_sl_uint8] T_sl_uint8 #[s12.v, s13.v]) w14 fun (s15 : Sl) w16 =>
 nilCk x0 fun (a17 : Addr) =>
 StoreP P T_sl_uint8 (.pointer (some (a17.add 0))) s15.v w16 fun w18 =>
 R (.tuple #[]) w18))
theorem c_codec_Writer_Uint {R : Value → World → Prop} {x0 : Option Addr} {x1 : Int} {w : World} (h : S_codec_Writer_Uint R x0 x1 w) : CallP P F_codec_Writer_Uint [.pointer x0, .int .u64 x1] w R := mkC (an := ⟨[], [(1, [(1, (.int .u64))])], []⟩) Tryz.func129 (by kernel_rfl) h


/-- (*penstock/codec.Writer).Flag -/
def S_codec_Writer_Flag (R : Value → World → Prop) (x0 : Option Addr) (x1 : Bool) (w : World) : Prop :=
 ifB x1
 (CallP P F_codec_Writer_Uint [(.pointer x0), (.int .u64 1)] w fun (v0 : Value) w1 =>
 TupP [] v0 fun (t2 : Unit) =>
 R (.tuple #[]) w1)
 (CallP P F_codec_Writer_Uint [(.pointer x0), (.int .u64 0)] w fun (v3 : Value) w4 =>
 TupP [] v3 fun (t5 : Unit) =>
 R (.tuple #[]) w4)
theorem c_codec_Writer_Flag {R : Value → World → Prop} {x0 : Option Addr} {x1 : Bool} {w : World} (h : S_codec_Writer_Flag R x0 x1 w) : CallP P F_codec_Writer_Flag [.pointer x0, .bool x1] w R := mkC (an := ⟨[], [], []⟩) Tryz.func130 (by kernel_rfl) h


/-- (*penstock/codec.Writer).Bytes -/
def S_codec_Writer_Bytes (R : Value → World → Prop) (x0 : Option Addr) (x1 : Sl) (w : World) : Prop :=
 ifB (Option.isNone x0)
 (R (.tuple #[]) w)
 (JoinP (T := Unit) (fun J0 =>
 ifB (decide ((↑x1.len : Int) > 4096))
 (nilCk x0 fun (a3 : Addr) =>
 RunQ (.int .i64) P (Instr.loadAt T_api_Errno (.pointer (some (a3.add 1)))) w fun (n4 : Int) =>
 ifB (n4 == 0)
 (nilCk x0 fun (a5 : Addr) =>
 StoreP P T_api_Errno (.pointer (some (a5.add 1))) (.int .i64 2) w fun w6 =>
 J0 (some ()) w6)
 (J0 (some ()) w))
 (J0 (some ()) w))
 fun t1 w2 =>
 CallP P F_codec_Writer_Uint [(.pointer x0), (.int .u64 (IntKind.u64.wrap (↑x1.len : Int)))] w2 fun (v7 : Value) w8 =>
 TupP [] v7 fun (t9 : Unit) =>
 nilCk x0 fun (a10 : Addr) =>
 RunQ .sl P (Instr.loadAt T_sl_uint8 (.pointer (some (a10.add 0)))) w8 fun (s11 : Sl) =>
 RunK .sl P (Builtin.append_ #[T_sl_uint8, T_sl_uint8] T_sl_uint8 #[s11.v, x1.v]) w8 fun (s12 : Sl) w13 =>
 nilCk x0 fun (a14 : Addr) =>
 StoreP P T_sl_uint8 (.pointer (some (a14.add 0))) s12.v w13 fun w15 =>
 R (.tuple #[]) w15)
theorem c_codec_Writer_Bytes {R : Value → World → Prop} {x0 : Option Addr} {x1 : Sl} {w : World} (h : S_codec_Writer_Bytes R x0 x1 w) : CallP P F_codec_Writer_Bytes [.pointer x0, x1.v] w R := mkC (an := ⟨[(3, [])], [], []⟩) Tryz.func131 (by kernel_rfl) h


/-- (*penstock/codec.Writer).Out -/
def S_codec_Writer_Out (R : Value → World → Prop) (x0 : Option Addr) (w : World) : Prop :=
 ifB (Option.isNone x0)
 (R (.tuple #[(.slice none 0 0), (.int .i64 5)]) w)
 (nilCk x0 fun (a0 : Addr) =>
 RunQ (.int .i64) P (Instr.loadAt T_api_Errno (.pointer (some (a0.add 1)))) w fun (n1 : Int) =>
 ifB (n1 != 0)
 (nilCk x0 fun (a2 : Addr) =>
 RunQ (.int .i64) P (Instr.loadAt T_api_Errno (.pointer (some (a2.add 1)))) w.drew fun (n3 : Int) =>
 R (.tuple #[(.slice none 0 0), (.int .i64 n3)]) w.drew)
 (nilCk x0 fun (a4 : Addr) =>
 RunQ .sl P (Instr.loadAt T_sl_uint8 (.pointer (some (a4.add 0)))) w fun (s5 : Sl) =>
 RunK .sl P (Builtin.append_ #[T_sl_uint8, T_sl_uint8] T_sl_uint8 #[(.slice none 0 0), s5.v]) w fun (s6 : Sl) w7 =>
 R (.tuple #[s6.v, (.int .i64 0)]) w7))
theorem c_codec_Writer_Out {R : Value → World → Prop} {x0 : Option Addr} {w : World} (h : S_codec_Writer_Out R x0 w) : CallP P F_codec_Writer_Out [.pointer x0] w R := mkC (an := ⟨[], [], []⟩) Tryz.func132 (by kernel_rfl) h


/-- (*penstock/codec.Writer).Fixed -/
def S_codec_Writer_Fixed (R : Value → World → Prop) (x0 : Option Addr) (x1 : Int) (w : World) : Prop :=
 ifB (!Option.isNone x0)
 (nilCk x0 fun (a0 : Addr) =>
 RunQ .sl P (Instr.loadAt T_sl_uint8 (.pointer (some (a0.add 0)))) w fun (s1 : Sl) =>
 RunK .sl P (Instr.buildSlice T_sl_uint8 4 #[(0, (.int .u8 (IntKind.u8.wrap x1))), (1, (.int .u8 (IntKind.u8.wrap (Int.fdiv x1 (2 ^ 8))))), (2, (.int .u8 (IntKind.u8.wrap (Int.fdiv x1 (2 ^ 16))))), (3, (.int .u8 (IntKind.u8.wrap (Int.fdiv x1 (2 ^ 24)))))]) w fun (s2 : Sl) w3 =>
 RunK .sl P (Builtin.append_ #[T_sl_uint8, T_sl_uint8] T_sl_uint8 #[s1.v, s2.v]) w3 fun (s4 : Sl) w5 =>
 nilCk x0 fun (a6 : Addr) =>
 StoreP P T_sl_uint8 (.pointer (some (a6.add 0))) s4.v w5 fun w7 =>
 R (.tuple #[]) w7)
 (R (.tuple #[]) w)
theorem c_codec_Writer_Fixed {R : Value → World → Prop} {x0 : Option Addr} {x1 : Int} {w : World} (h : S_codec_Writer_Fixed R x0 x1 w) : CallP P F_codec_Writer_Fixed [.pointer x0, .int .u32 x1] w R := mkC (an := ⟨[], [], []⟩) Tryz.func133 (by kernel_rfl) h


/-- penstock/codec.NewReader -/
def S_codec_NewReader (R : Value → World → Prop) (x0 : Sl) (w : World) : Prop :=
 RunK .sl P (Builtin.append_ #[T_sl_uint8, T_sl_uint8] T_sl_uint8 #[(.slice none 0 0), x0.v]) w fun (s0 : Sl) w1 =>
 RunK .addr P (Instr.box T_codec_Reader (.agg #[s0.v, (.int .i64 0), (.int .i64 0)])) w1 fun (a2 : Addr) w3 =>
 R (.pointer (some a2)) w3
theorem c_codec_NewReader {R : Value → World → Prop} {x0 : Sl} {w : World} (h : S_codec_NewReader R x0 w) : CallP P F_codec_NewReader [x0.v] w R := mkC (an := ⟨[], [], []⟩) Tryz.func150 (by kernel_rfl) h


/-- (*penstock/codec.Reader).Fixed -/
def S_codec_Reader_Fixed (R : Value → World → Prop) (x0 : Option Addr) (w : World) : Prop :=
 JoinP (T := Unit) (fun J0 =>
 ifB (Option.isNone x0)
 (R (.int .u32 0) w)
 (nilCk x0 fun (a3 : Addr) =>
 RunQ (.int .i64) P (Instr.loadAt T_api_Errno (.pointer (some (a3.add 2)))) w fun (n4 : Int) =>
 ifB (n4 != 0)
 (R (.int .u32 0) w)
 (J0 (some ()) w)))
 fun t1 w2 =>
 nilCk x0 fun (a5 : Addr) =>
 RunQ .sl P (Instr.loadAt T_sl_uint8 (.pointer (some (a5.add 0)))) w2.drew fun (s6 : Sl) =>
 nilCk x0 fun (a7 : Addr) =>
 RunQ (.int .i64) P (Instr.loadAt T_int (.pointer (some (a7.add 1)))) w2.drew fun (n8 : Int) =>
 ifB (decide (IntKind.i64.wrap ((↑s6.len : Int) - n8) < 4))
 (CallP P F_codec_Reader_fail [(.pointer x0), (.int .i64 6)] w2.drew fun (v9 : Value) w10 =>
 TupP [] v9 fun (t11 : Unit) =>
 R (.int .u32 0) w10)
 (nilCk x0 fun (a12 : Addr) =>
 RunQ .sl P (Instr.loadAt T_sl_uint8 (.pointer (some (a12.add 0)))) w2.drew.drew fun (s13 : Sl) =>
 nilCk x0 fun (a14 : Addr) =>
 RunQ (.int .i64) P (Instr.loadAt T_int (.pointer (some (a14.add 1)))) w2.drew.drew fun (n15 : Int) =>
 RunQ .sl P (Instr.sliceAt T_sl_uint8 s13.v (some (.int .i64 n15)) none none) w2.drew.drew fun (s16 : Sl) =>
 nilCk x0 fun (a17 : Addr) =>
 RunQ (.int .i64) P (Instr.loadAt T_int (.pointer (some (a17.add 1)))) w2.drew.drew fun (n18 : Int) =>
 nilCk x0 fun (a19 : Addr) =>
 StoreP P T_int (.pointer (some (a19.add 1))) (.int .i64 (IntKind.i64.wrap (n18 + 4))) w2.drew.drew fun w20 =>
 RunQ .addr P (Instr.indexAt T_sl_uint8 s16.v (.int .i64 0)) w20.drew fun (a21 : Addr) =>
 RunQ (.int .u8) P (Instr.loadAt T_uint8 (.pointer (some a21))) w20.drew fun (n22 : Int) =>
 RunQ .addr P (Instr.indexAt T_sl_uint8 s16.v (.int .i64 1)) w20.drew fun (a23 : Addr) =>
 RunQ (.int .u8) P (Instr.loadAt T_uint8 (.pointer (some a23))) w20.drew fun (n24 : Int) =>
 RunQ .addr P (Instr.indexAt T_sl_uint8 s16.v (.int .i64 2)) w20.drew fun (a25 : Addr) =>
 RunQ (.int .u8) P (Instr.loadAt T_uint8 (.pointer (some a25))) w20.drew fun (n26 : Int) =>
 RunQ .addr P (Instr.indexAt T_sl_uint8 s16.v (.int .i64 3)) w20.drew fun (a27 : Addr) =>
 RunQ (.int .u8) P (Instr.loadAt T_uint8 (.pointer (some a27))) w20.drew fun (n28 : Int) =>
 R (.int .u32 (IntKind.u32.wrap (↑(BitVec.ofInt 32 (IntKind.u32.wrap (↑(BitVec.ofInt 32 (IntKind.u32.wrap (↑(BitVec.ofInt 32 (IntKind.u32.wrap n22) ||| BitVec.ofInt 32 (IntKind.u32.wrap (IntKind.u32.wrap n24 * 2 ^ 8))).toNat : Int)) ||| BitVec.ofInt 32 (IntKind.u32.wrap (IntKind.u32.wrap n26 * 2 ^ 16))).toNat : Int)) ||| BitVec.ofInt 32 (IntKind.u32.wrap (IntKind.u32.wrap n28 * 2 ^ 24))).toNat : Int))) w20.drew)
theorem c_codec_Reader_Fixed {R : Value → World → Prop} {x0 : Option Addr} {w : World} (h : S_codec_Reader_Fixed R x0 w) : CallP P F_codec_Reader_Fixed [.pointer x0] w R := mkC (an := ⟨[(3, [])], [], []⟩) Tryz.func151 (by kernel_rfl) h


/-- (*penstock/codec.Reader).State -/
def S_codec_Reader_State (R : Value → World → Prop) (x0 : Option Addr) (w : World) : Prop :=
 ifB (Option.isNone x0)
 (R (.tuple #[(.int .i64 0), (.int .i64 0), (.int .i64 5)]) w)
 (nilCk x0 fun (a0 : Addr) =>
 RunQ (.int .i64) P (Instr.loadAt T_int (.pointer (some (a0.add 1)))) w.drew fun (n1 : Int) =>
 nilCk x0 fun (a2 : Addr) =>
 RunQ .sl P (Instr.loadAt T_sl_uint8 (.pointer (some (a2.add 0)))) w.drew fun (s3 : Sl) =>
 nilCk x0 fun (a4 : Addr) =>
 RunQ (.int .i64) P (Instr.loadAt T_int (.pointer (some (a4.add 1)))) w.drew fun (n5 : Int) =>
 nilCk x0 fun (a6 : Addr) =>
 RunQ (.int .i64) P (Instr.loadAt T_api_Errno (.pointer (some (a6.add 2)))) w.drew fun (n7 : Int) =>
 R (.tuple #[(.int .i64 n1), (.int .i64 (IntKind.i64.wrap ((↑s3.len : Int) - n5))), (.int .i64 n7)]) w.drew)
theorem c_codec_Reader_State {R : Value → World → Prop} {x0 : Option Addr} {w : World} (h : S_codec_Reader_State R x0 w) : CallP P F_codec_Reader_State [.pointer x0] w R := mkC (an := ⟨[], [], []⟩) Tryz.func152 (by kernel_rfl) h


/-- (*penstock/codec.Reader).Int -/
def S_codec_Reader_Int (R : Value → World → Prop) (x0 : Option Addr) (w : World) : Prop :=
 CallP P F_codec_Reader_Uint [(.pointer x0)] w fun (v0 : Value) w1 =>
 TyP (.int .u64) v0 fun (n2 : Int) =>
 R (.int .i64 (IntKind.i64.wrap (↑(BitVec.ofInt 64 (IntKind.i64.wrap (Int.fdiv n2 (2 ^ 1))) ^^^ BitVec.ofInt 64 (IntKind.i64.wrap (0 - IntKind.i64.wrap (IntKind.u64.wrap (↑(BitVec.ofInt 64 n2 &&& BitVec.ofInt 64 1).toNat : Int))))).toNat : Int))) w1
theorem c_codec_Reader_Int {R : Value → World → Prop} {x0 : Option Addr} {w : World} (h : S_codec_Reader_Int R x0 w) : CallP P F_codec_Reader_Int [.pointer x0] w R := mkC (an := ⟨[], [], []⟩) Tryz.func153 (by kernel_rfl) h


/-- (*penstock/codec.Reader).Uint -/
def S_codec_Reader_Uint (R : Value → World → Prop) (x0 : Option Addr) (w : World) : Prop :=
 JoinP (T := Unit) (fun J0 =>
 ifB (Option.isNone x0)
 (R (.int .u64 0) w)
 (nilCk x0 fun (a3 : Addr) =>
 RunQ (.int .i64) P (Instr.loadAt T_api_Errno (.pointer (some (a3.add 2)))) w fun (n4 : Int) =>
 ifB (n4 != 0)
 (R (.int .u64 0) w)
 (J0 (some ()) w)))
 fun t1 w2 =>
 nilCk x0 fun (a5 : Addr) =>
 RunQ (.int .i64) P (Instr.loadAt T_int (.pointer (some (a5.add 1)))) w2 fun (n6 : Int) =>
 LoopP (T := Int × Int × Unit) (some (0, (0, ()))) w2 fun next7 t8 w9 =>
 nilCk x0 fun (a10 : Addr) =>
 RunQ (.int .i64) P (Instr.loadAt T_int (.pointer (some (a10.add 1)))) w9.drew fun (n11 : Int) =>
 nilCk x0 fun (a12 : Addr) =>
 RunQ .sl P (Instr.loadAt T_sl_uint8 (.pointer (some (a12.add 0)))) w9.drew fun (s13 : Sl) =>
 ifB (n11 == (↑s13.len : Int))
 (nilCk x0 fun (a14 : Addr) =>
 StoreP P T_int (.pointer (some (a14.add 1))) (.int .i64 n6) w9.drew fun w15 =>
 CallP P F_codec_Reader_fail [(.pointer x0), (.int .i64 6)] w15 fun (v16 : Value) w17 =>
 TupP [] v16 fun (t18 : Unit) =>
 R (.int .u64 0) w17)
 (nilCk x0 fun (a19 : Addr) =>
 RunQ .sl P (Instr.loadAt T_sl_uint8 (.pointer (some (a19.add 0)))) w9.drew.drew fun (s20 : Sl) =>
 nilCk x0 fun (a21 : Addr) =>
 RunQ (.int .i64) P (Instr.loadAt T_int (.pointer (some (a21.add 1)))) w9.drew.drew fun (n22 : Int) =>
 RunQ .addr P (Instr.indexAt T_sl_uint8 s20.v (.int .i64 n22)) w9.drew.drew fun (a23 : Addr) =>
 RunQ (.int .u8) P (Instr.loadAt T_uint8 (.pointer (some a23))) w9.drew.drew fun (n24 : Int) =>
 nilCk x0 fun (a25 : Addr) =>
 RunQ (.int .i64) P (Instr.loadAt T_int (.pointer (some (a25.add 1)))) w9.drew.drew fun (n26 : Int) =>
 nilCk x0 fun (a27 : Addr) =>
 StoreP P T_int (.pointer (some (a27.add 1))) (.int .i64 (IntKind.i64.wrap (n26 + 1))) w9.drew.drew fun w28 =>
 JoinP (T := Unit) (fun J29 =>
 ifB (t8.snd.fst == 63)
 (ifB (decide (n24 > 1))
 (nilCk x0 fun (a32 : Addr) =>
 StoreP P T_int (.pointer (some (a32.add 1))) (.int .i64 n6) w28 fun w33 =>
 CallP P F_codec_Reader_fail [(.pointer x0), (.int .i64 7)] w33 fun (v34 : Value) w35 =>
 TupP [] v34 fun (t36 : Unit) =>
 R (.int .u64 0) w35)
 (ifB (n24 == 0)
 (ifB (decide (t8.snd.fst > 0))
 (nilCk x0 fun (a37 : Addr) =>
 StoreP P T_int (.pointer (some (a37.add 1))) (.int .i64 n6) w28 fun w38 =>
 CallP P F_codec_Reader_fail [(.pointer x0), (.int .i64 7)] w38 fun (v39 : Value) w40 =>
 TupP [] v39 fun (t41 : Unit) =>
 R (.int .u64 0) w40)
 (J29 (some ()) w28))
 (J29 (some ()) w28)))
 (ifB (n24 == 0)
 (ifB (decide (t8.snd.fst > 0))
 (nilCk x0 fun (a42 : Addr) =>
 StoreP P T_int (.pointer (some (a42.add 1))) (.int .i64 n6) w28 fun w43 =>
 CallP P F_codec_Reader_fail [(.pointer x0), (.int .i64 7)] w43 fun (v44 : Value) w45 =>
 TupP [] v44 fun (t46 : Unit) =>
 R (.int .u64 0) w45)
 (J29 (some ()) w28))
 (J29 (some ()) w28)))
 fun t30 w31 =>
 RunK (.int .u64) P (do (eqGuard .shl T_uint64 (.tmp 0) (.tmp 0) (.int .u64 (IntKind.u64.wrap (IntKind.u8.wrap (↑(BitVec.ofInt 8 n24 &&& BitVec.ofInt 8 127).toNat : Int)))) (.int .i64 t8.snd.fst)); (binOp .shl T_uint64 (.int .u64 (IntKind.u64.wrap (IntKind.u8.wrap (↑(BitVec.ofInt 8 n24 &&& BitVec.ofInt 8 127).toNat : Int)))) (.int .i64 t8.snd.fst))) w31 fun (n47 : Int) w48 =>
 ifB (decide (n24 < 128))
 (R (.int .u64 (IntKind.u64.wrap (↑(BitVec.ofInt 64 t8.fst ||| BitVec.ofInt 64 n47).toNat : Int))) w48)
 (next7 (some ((IntKind.u64.wrap (↑(BitVec.ofInt 64 t8.fst ||| BitVec.ofInt 64 n47).toNat : Int)), ((IntKind.i64.wrap (t8.snd.fst + 7)), ()))) w48))
theorem c_codec_Reader_Uint {R : Value → World → Prop} {x0 : Option Addr} {w : World} (h : S_codec_Reader_Uint R x0 w) : CallP P F_codec_Reader_Uint [.pointer x0] w R := mkC (an := ⟨[(17, []), (3, [])], [(7, [(4, (.int .u64)), (5, (.int .i64))])], []⟩) Tryz.func154 (by kernel_rfl) h


/-- (*penstock/codec.Reader).Flag -/
def S_codec_Reader_Flag (R : Value → World → Prop) (x0 : Option Addr) (w : World) : Prop :=
 CallP P F_codec_Reader_Uint [(.pointer x0)] w fun (v0 : Value) w1 =>
 TyP (.int .u64) v0 fun (n2 : Int) =>
 ifB (decide (n2 > 1))
 (CallP P F_codec_Reader_fail [(.pointer x0), (.int .i64 7)] w1 fun (v3 : Value) w4 =>
 TupP [] v3 fun (t5 : Unit) =>
 R (.bool false) w4)
 (R (.bool (n2 == 1)) w1)
theorem c_codec_Reader_Flag {R : Value → World → Prop} {x0 : Option Addr} {w : World} (h : S_codec_Reader_Flag R x0 w) : CallP P F_codec_Reader_Flag [.pointer x0] w R := mkC (an := ⟨[], [], []⟩) Tryz.func155 (by kernel_rfl) h


/-- (*penstock/codec.Reader).Bytes -/
def S_codec_Reader_Bytes (R : Value → World → Prop) (x0 : Option Addr) (w : World) : Prop :=
 CallP P F_codec_Reader_Uint [(.pointer x0)] w fun (v0 : Value) w1 =>
 TyP (.int .u64) v0 fun (n2 : Int) =>
 JoinP (T := Unit) (fun J3 =>
 ifB (Option.isNone x0)
 (R (.slice none 0 0) w1)
 (nilCk x0 fun (a6 : Addr) =>
 RunQ (.int .i64) P (Instr.loadAt T_api_Errno (.pointer (some (a6.add 2)))) w1 fun (n7 : Int) =>
 ifB (n7 != 0)
 (R (.slice none 0 0) w1)
 (ifB (decide (n2 > 4096))
 (CallP P F_codec_Reader_fail [(.pointer x0), (.int .i64 2)] w1 fun (v8 : Value) w9 =>
 TupP [] v8 fun (t10 : Unit) =>
 R (.slice none 0 0) w9)
 (nilCk x0 fun (a11 : Addr) =>
 RunQ .sl P (Instr.loadAt T_sl_uint8 (.pointer (some (a11.add 0)))) w1.drew fun (s12 : Sl) =>
 nilCk x0 fun (a13 : Addr) =>
 RunQ (.int .i64) P (Instr.loadAt T_int (.pointer (some (a13.add 1)))) w1.drew fun (n14 : Int) =>
 ifB (decide (IntKind.i64.wrap n2 > IntKind.i64.wrap ((↑s12.len : Int) - n14)))
 (CallP P F_codec_Reader_fail [(.pointer x0), (.int .i64 6)] w1.drew fun (v15 : Value) w16 =>
 TupP [] v15 fun (t17 : Unit) =>
 R (.slice none 0 0) w16)
 (J3 (some ()) w1.drew)))))
 fun t4 w5 =>
 ∃ S18 : World → Prop, (S18 w5.drew) ∧
 nilCk x0 fun (a19 : Addr) =>
 HRun S18 .sl P (Instr.loadAt T_sl_uint8 (.pointer (some (a19.add 0)))) fun (s20 : Sl) =>
 nilCk x0 fun (a21 : Addr) =>
 HRun S18 (.int .i64) P (Instr.loadAt T_int (.pointer (some (a21.add 1)))) fun (n22 : Int) =>
 nilCk x0 fun (a23 : Addr) =>
 HRun S18 (.int .i64) P (Instr.loadAt T_int (.pointer (some (a23.add 1)))) fun (n24 : Int) =>
 HRun S18 .sl P (Instr.sliceAt T_sl_uint8 s20.v (some (.int .i64 n22)) (some (.int .i64 (IntKind.i64.wrap (n24 + IntKind.i64.wrap n2)))) none) fun (s25 : Sl) =>
 RunK .sl P (Builtin.append_ #[T_sl_uint8, T_sl_uint8] T_sl_uint8 #[(.slice none 0 0), s25.v]) w5.drew fun (s26 : Sl) w27 =>
 (S18 w27) ∧
 nilCk x0 fun (a28 : Addr) =>
 RunQ (.int .i64) P (Instr.loadAt T_int (.pointer (some (a28.add 1)))) w27 fun (n29 : Int) =>
 nilCk x0 fun (a30 : Addr) =>
 StoreP P T_int (.pointer (some (a30.add 1))) (.int .i64 (IntKind.i64.wrap (n29 + IntKind.i64.wrap n2))) w27 fun w31 =>
 R s26.v w31
theorem c_codec_Reader_Bytes {R : Value → World → Prop} {x0 : Option Addr} {w : World} (h : S_codec_Reader_Bytes R x0 w) : CallP P F_codec_Reader_Bytes [.pointer x0] w R := mkC (an := ⟨[(10, [])], [], []⟩) Tryz.func156 (by kernel_rfl) h


/-- (*penstock/codec.Reader).End -/
def S_codec_Reader_End (R : Value → World → Prop) (x0 : Option Addr) (w : World) : Prop :=
 JoinP (T := Unit) (fun J0 =>
 ifB (Option.isNone x0)
 (R (.int .i64 5) w)
 (nilCk x0 fun (a3 : Addr) =>
 RunQ (.int .i64) P (Instr.loadAt T_api_Errno (.pointer (some (a3.add 2)))) w.drew fun (n4 : Int) =>
 ifB (n4 == 0)
 (nilCk x0 fun (a5 : Addr) =>
 RunQ (.int .i64) P (Instr.loadAt T_int (.pointer (some (a5.add 1)))) w.drew fun (n6 : Int) =>
 nilCk x0 fun (a7 : Addr) =>
 RunQ .sl P (Instr.loadAt T_sl_uint8 (.pointer (some (a7.add 0)))) w.drew fun (s8 : Sl) =>
 ifB (decide (n6 < (↑s8.len : Int)))
 (R (.int .i64 6) w.drew)
 (J0 (some ()) w.drew))
 (J0 (some ()) w.drew)))
 fun t1 w2 =>
 nilCk x0 fun (a9 : Addr) =>
 RunQ (.int .i64) P (Instr.loadAt T_api_Errno (.pointer (some (a9.add 2)))) w2 fun (n10 : Int) =>
 R (.int .i64 n10) w2
theorem c_codec_Reader_End {R : Value → World → Prop} {x0 : Option Addr} {w : World} (h : S_codec_Reader_End R x0 w) : CallP P F_codec_Reader_End [.pointer x0] w R := mkC (an := ⟨[(5, [])], [], []⟩) Tryz.func157 (by kernel_rfl) h


/-- (*penstock/codec.Reader).fail -/
def S_codec_Reader_fail (R : Value → World → Prop) (x0 : Option Addr) (x1 : Int) (w : World) : Prop :=
 nilCk x0 fun (a0 : Addr) =>
 RunQ (.int .i64) P (Instr.loadAt T_api_Errno (.pointer (some (a0.add 2)))) w fun (n1 : Int) =>
 ifB (n1 == 0)
 (nilCk x0 fun (a2 : Addr) =>
 StoreP P T_api_Errno (.pointer (some (a2.add 2))) (.int .i64 x1) w fun w3 =>
 R (.tuple #[]) w3)
 (R (.tuple #[]) w)
theorem c_codec_Reader_fail {R : Value → World → Prop} {x0 : Option Addr} {x1 : Int} {w : World} (h : S_codec_Reader_fail R x0 x1 w) : CallP P F_codec_Reader_fail [.pointer x0, .int .i64 x1] w R := mkC (an := ⟨[], [], []⟩) Tryz.func178 (by kernel_rfl) h

end Go.Proofs.YtnjadekngjgjcaaGreatDoor
