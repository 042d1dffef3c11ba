/- The functions of the program as predicates over worlds, written by a program of mine (PkPrint); each is held against the code by the kernel. -/
import Derived.Test.YtnjadekngjgjcaaGreatDoorN
namespace Go.Proofs.YtnjadekngjgjcaaGreatDoor
open Go Go.Pk
/-- penstock/frame.New -/
def S_frame_New (R : Value → World → Prop) (w : World) : Prop :=
 CallP P F_crc_New [] w fun (v0 : Value) w1 =>
 TyP .ptr v0 fun (p2 : Option Addr) =>
 RunK .addr P (Instr.box T_frame_Framer (.agg #[(.pointer p2)])) w1 fun (a3 : Addr) w4 =>
 R (.pointer (some a3)) w4
theorem c_frame_New {R : Value → World → Prop} {w : World} (h : S_frame_New R  w) : CallP P F_frame_New [] w R := mkC (an := ⟨[], [], []⟩) Tryz.func79 (by kernel_rfl) h


/-- (*penstock/frame.Framer).Encode -/
def S_frame_Framer_Encode (R : Value → World → Prop) (x0 : Option Addr) (x1 : Sl) (w : World) : Prop :=
 ifB (Option.isNone x0)
 (R (.tuple #[(.slice none 0 0), (.int .i64 5)]) w)
 (ifB (decide ((↑x1.len : Int) > 4096))
 (R (.tuple #[(.slice none 0 0), (.int .i64 2)]) w)
 (CallP P F_codec_NewWriter [] w fun (v0 : Value) w1 =>
 TyP .ptr v0 fun (p2 : Option Addr) =>
 CallP P F_codec_Writer_Fixed [(.pointer p2), (.int .u32 (IntKind.u32.wrap (↑x1.len : Int)))] w1 fun (v3 : Value) w4 =>
 TupP [] v3 fun (t5 : Unit) =>
 nilCk x0 fun (a6 : Addr) =>
 RunQ .ptr P (Instr.loadAt T_p_crc_Table (.pointer (some (a6.add 0)))) w4 fun (p7 : Option Addr) =>
 CallP P F_crc_Table_Sum [(.pointer p7), x1.v] w4 fun (v8 : Value) w9 =>
 TyP (.int .u32) v8 fun (n10 : Int) =>
 CallP P F_codec_Writer_Fixed [(.pointer p2), (.int .u32 n10)] w9 fun (v11 : Value) w12 =>
 TupP [] v11 fun (t13 : Unit) =>
 CallP P F_codec_Writer_Out [(.pointer p2)] w12 fun (v14 : Value) w15 =>
 TupP [.sl, (.int .i64)] v14 fun (t16 : Sl × Int × Unit) =>
 RunK .sl P (Builtin.append_ #[T_sl_uint8, T_sl_uint8] T_sl_uint8 #[t16.fst.v, x1.v]) w15 fun (s17 : Sl) w18 =>
 R (.tuple #[s17.v, (.int .i64 0)]) w18))
theorem c_frame_Framer_Encode {R : Value → World → Prop} {x0 : Option Addr} {x1 : Sl} {w : World} (h : S_frame_Framer_Encode R x0 x1 w) : CallP P F_frame_Framer_Encode [.pointer x0, x1.v] w R := mkC (an := ⟨[], [], []⟩) Tryz.func105 (by kernel_rfl) h


/-- penstock/crc.New -/
def S_crc_New (R : Value → World → Prop) (w : World) : Prop :=
 RunK .addr P (Instr.box T_crc_Table (.agg #[(.int .u32 0), (.int .i32 0), (.int .u32 0), (.int .u32 0), (.int .u32 0), (.int .u32 0), (.int .u32 0), (.int .u32 0), (.int .u32 0), (.int .u32 0), (.int .u32 0), (.int .u32 0), (.int .u32 0), (.int .u32 0), (.int .u32 0), (.int .u32 0), (.int .u32 0), (.int .u32 0), (.int .u32 0), (.int .u32 0), (.int .u32 0), (.int .u32 0), (.int .u32 0), (.int .u32 0), (.int .u32 0), (.int .u32 0), (.int .u32 0), (.int .u32 0), (.int .u32 0), (.int .u32 0), (.int .u32 0), (.int .u32 0), (.int .u32 0), (.int .u32 0), (.int .u32 0), (.int .u32 0), (.int .u32 0), (.int .u32 0), (.int .u32 0), (.int .u32 0), (.int .u32 0), (.int .u32 0), (.int .u32 0), (.int .u32 0), (.int .u32 0), (.int .u32 0), (.int .u32 0), (.int .u32 0), (.int .u32 0), (.int .u32 0), (.int .u32 0), (.int .u32 0), (.int .u32 0), (.int .u32 0), (.int .u32 0), (.int .u32 0), (.int .u32 0), (.int .u32 0), (.int .u32 0), (.int .u32 0), (.int .u32 0), (.int .u32 0), (.int .u32 0), (.int .u32 0), (.int .u32 0), (.int .u32 0), (.int .u32 0), (.int .u32 0), (.int .u32 0), (.int .u32 0), (.int .u32 0), (.int .u32 0), (.int .u32 0), (.int .u32 0), (.int .u32 0), (.int .u32 0), (.int .u32 0), (.int .u32 0), (.int .u32 0), (.int .u32 0), (.int .u32 0), (.int .u32 0), (.int .u32 0), (.int .u32 0), (.int .u32 0), (.int .u32 0), (.int .u32 0), (.int .u32 0), (.int .u32 0), (.int .u32 0), (.int .u32 0), (.int .u32 0), (.int .u32 0), (.int .u32 0), (.int .u32 0), (.int .u32 0), (.int .u32 0), (.int .u32 0), (.int .u32 0), (.int .u32 0), (.int .u32 0), (.int .u32 0), (.int .u32 0), (.int .u32 0), (.int .u32 0), (.int .u32 0), (.int .u32 0), (.int .u32 0), (.int .u32 0), (.int .u32 0), (.int .u32 0), (.int .u32 0), (.int .u32 0), (.int .u32 0), (.int .u32 0), (.int .u32 0), (.int .u32 0), (.int .u32 0), (.int .u32 0), (.int .u32 0), (.int .u32 0), (.int .u32 0), (.int .u32 0), (.int .u32 0), (.int .u32 0), (.int .u32 0), (.int .u32 0), (.int .u32 0), (.int .u32 0), (.int .u32 0), (.int .u32 0), (.int .u32 0), (.int .u32 0), (.int .u32 0), (.int .u32 0), (.int .u32 0), (.int .u32 0), (.int .u32 0), (.int .u32 0), (.int .u32 0), (.int .u32 0), (.int .u32 0), (.int .u32 0), (.int .u32 0), (.int .u32 0), (.int .u32 0), (.int .u32 0), (.int .u32 0), (.int .u32 0), (.int .u32 0), (.int .u32 0), (.int .u32 0), (.int .u32 0), (.int .u32 0), (.int .u32 0), (.int .u32 0), (.int .u32 0), (.int .u32 0), (.int .u32 0), (.int .u32 0), (.int .u32 0), (.int .u32 0), (.int .u32 0), (.int .u32 0), (.int .u32 0), (.int .u32 0), (.int .u32 0), (.int .u32 0), (.int .u32 0), (.int .u32 0), (.int .u32 0), (.int .u32 0), (.int .u32 0), (.int .u32 0), (.int .u32 0), (.int .u32 0), (.int .u32 0), (.int .u32 0), (.int .u32 0), (.int .u32 0), (.int .u32 0), (.int .u32 0), (.int .u32 0), (.int .u32 0), (.int .u32 0), (.int .u32 0), (.int .u32 0), (.int .u32 0), (.int .u32 0), (.int .u32 0), (.int .u32 0), (.int .u32 0), (.int .u32 0), (.int .u32 0), (.int .u32 0), (.int .u32 0), (.int .u32 0), (.int .u32 0), (.int .u32 0), (.int .u32 0), (.int .u32 0), (.int .u32 0), (.int .u32 0), (.int .u32 0), (.int .u32 0), (.int .u32 0), (.int .u32 0), (.int .u32 0), (.int .u32 0), (.int .u32 0), (.int .u32 0), (.int .u32 0), (.int .u32 0), (.int .u32 0), (.int .u32 0), (.int .u32 0), (.int .u32 0), (.int .u32 0), (.int .u32 0), (.int .u32 0), (.int .u32 0), (.int .u32 0), (.int .u32 0), (.int .u32 0), (.int .u32 0), (.int .u32 0), (.int .u32 0), (.int .u32 0), (.int .u32 0), (.int .u32 0), (.int .u32 0), (.int .u32 0), (.int .u32 0), (.int .u32 0), (.int .u32 0), (.int .u32 0), (.int .u32 0), (.int .u32 0), (.int .u32 0), (.int .u32 0), (.int .u32 0), (.int .u32 0), (.int .u32 0), (.int .u32 0), (.int .u32 0), (.int .u32 0), (.int .u32 0), (.int .u32 0), (.int .u32 0), (.int .u32 0), (.int .u32 0), (.int .u32 0), (.int .u32 0), (.int .u32 0), (.int .u32 0), (.int .u32 0), (.int .u32 0), (.int .u32 0), (.int .u32 0)])) w fun (a0 : Addr) w1 =>
 R (.pointer (some a0)) w1
theorem c_crc_New {R : Value → World → Prop} {w : World} (h : S_crc_New R  w) : CallP P F_crc_New [] w R := mkC (an := ⟨[], [], []⟩) Tryz.func111 (by kernel_rfl) h


/-- (*penstock/frame.Framer).Decode -/
def S_frame_Framer_Decode (R : Value → World → Prop) (x0 : Option Addr) (x1 : Sl) (w : World) : Prop :=
 ifB (Option.isNone x0)
 (R (.tuple #[(.slice none 0 0), (.int .i64 0), (.int .i64 5)]) w)
 (RunQ .sl P (Instr.sliceAt T_sl_uint8 x1.v none (some (.int .i64 (if 8 < (↑x1.len : Int) then 8 else (↑x1.len : Int)))) none) w fun (s0 : Sl) =>
 CallP P F_codec_NewReader [s0.v] w fun (v1 : Value) w2 =>
 TyP .ptr v1 fun (p3 : Option Addr) =>
 CallP P F_codec_Reader_Fixed [(.pointer p3)] w2 fun (v4 : Value) w5 =>
 TyP (.int .u32) v4 fun (n6 : Int) =>
 CallP P F_codec_Reader_Fixed [(.pointer p3)] w5 fun (v7 : Value) w8 =>
 TyP (.int .u32) v7 fun (n9 : Int) =>
 CallP P F_codec_Reader_State [(.pointer p3)] w8 fun (v10 : Value) w11 =>
 TupP [(.int .i64), (.int .i64), (.int .i64)] v10 fun (t12 : Int × Int × Int × Unit) =>
 ifB (t12.snd.snd.fst != 0)
 (R (.tuple #[(.slice none 0 0), (.int .i64 0), (.int .i64 6)]) w11)
 (ifB (decide (n6 > 4096))
 (R (.tuple #[(.slice none 0 0), (.int .i64 0), (.int .i64 2)]) w11)
 (ifB (decide (IntKind.i64.wrap ((↑x1.len : Int) - 8) < IntKind.i64.wrap n6))
 (R (.tuple #[(.slice none 0 0), (.int .i64 0), (.int .i64 6)]) w11)
 (RunQ .sl P (Instr.sliceAt T_sl_uint8 x1.v (some (.int .i64 8)) (some (.int .i64 (IntKind.i64.wrap (8 + IntKind.i64.wrap n6)))) none) w11 fun (s13 : Sl) =>
 RunK .sl P (Builtin.append_ #[T_sl_uint8, T_sl_uint8] T_sl_uint8 #[(.slice none 0 0), s13.v]) w11 fun (s14 : Sl) w15 =>
 nilCk x0 fun (a16 : Addr) =>
 RunQ .ptr P (Instr.loadAt T_p_crc_Table (.pointer (some (a16.add 0)))) w15 fun (p17 : Option Addr) =>
 CallP P F_crc_Table_Sum [(.pointer p17), s14.v] w15 fun (v18 : Value) w19 =>
 TyP (.int .u32) v18 fun (n20 : Int) =>
 ifB (n20 != n9)
 (R (.tuple #[(.slice none 0 0), (.int .i64 0), (.int .i64 8)]) w19)
 (R (.tuple #[s14.v, (.int .i64 (IntKind.i64.wrap (8 + IntKind.i64.wrap n6))), (.int .i64 0)]) w19)))))
theorem c_frame_Framer_Decode {R : Value → World → Prop} {x0 : Option Addr} {x1 : Sl} {w : World} (h : S_frame_Framer_Decode R x0 x1 w) : CallP P F_frame_Framer_Decode [.pointer x0, x1.v] w R := mkC (an := ⟨[], [], []⟩) Tryz.func121 (by kernel_rfl) h


/-- (*penstock/crc.Table).Sum -/
def S_crc_Table_Sum (R : Value → World → Prop) (x0 : Option Addr) (x1 : Sl) (w : World) : Prop :=
 CallP P F_crc_Table_More [(.pointer x0), (.int .u32 0), x1.v] w fun (v0 : Value) w1 =>
 TyP (.int .u32) v0 fun (n2 : Int) =>
 R (.int .u32 n2) w1
theorem c_crc_Table_Sum {R : Value → World → Prop} {x0 : Option Addr} {x1 : Sl} {w : World} (h : S_crc_Table_Sum R x0 x1 w) : CallP P F_crc_Table_Sum [.pointer x0, x1.v] w R := mkC (an := ⟨[], [], []⟩) Tryz.func134 (by kernel_rfl) h


/-- (*penstock/crc.Table).More -/
def S_crc_Table_More (R : Value → World → Prop) (x0 : Option Addr) (x1 : Int) (x2 : Sl) (w : World) : Prop :=
 ifB (Option.isNone x0)
 (R (.int .u32 0) w)
 (nilCk x0 fun (a0 : Addr) =>
 CallP P F_sync_Once_Do [(.pointer (some (a0.add 0))), (.func (Go.Fn.func 180) #[(.pointer x0)] #[])] w fun (v1 : Value) w2 =>
 TupP [] v1 fun (t3 : Unit) =>
 LoopP (T := Int × Int × Unit) (some ((IntKind.u32.wrap (↑(BitVec.ofInt 32 (if IntKind.u32.signed = true then -1 else IntKind.u32.max) ^^^ BitVec.ofInt 32 x1).toNat : Int)), (0, ()))) w2 fun next4 t5 w6 =>
 ifB (decide (t5.snd.fst < (↑x2.len : Int)))
 (RunQ .addr P (Instr.indexAt T_sl_uint8 x2.v (.int .i64 t5.snd.fst)) w6 fun (a7 : Addr) =>
 RunQ (.int .u8) P (Instr.loadAt T_uint8 (.pointer (some a7))) w6 fun (n8 : Int) =>
 nilCk x0 fun (a9 : Addr) =>
 RunQ .addr P (Instr.indexAt T_256_uint32 (.pointer (some (a9.add 3))) (.int .u8 (IntKind.u8.wrap (↑(BitVec.ofInt 8 (IntKind.u8.wrap t5.fst) ^^^ BitVec.ofInt 8 n8).toNat : Int)))) w6 fun (a10 : Addr) =>
 RunQ (.int .u32) P (Instr.loadAt T_uint32 (.pointer (some a10))) w6 fun (n11 : Int) =>
 next4 (some ((IntKind.u32.wrap (↑(BitVec.ofInt 32 n11 ^^^ BitVec.ofInt 32 (Int.fdiv t5.fst (2 ^ 8))).toNat : Int)), ((IntKind.i64.wrap (t5.snd.fst + 1)), ()))) w6)
 (R (.int .u32 (IntKind.u32.wrap (↑(BitVec.ofInt 32 (if IntKind.u32.signed = true then -1 else IntKind.u32.max) ^^^ BitVec.ofInt 32 t5.fst).toNat : Int))) w6))
theorem c_crc_Table_More {R : Value → World → Prop} {x0 : Option Addr} {x1 : Int} {x2 : Sl} {w : World} (h : S_crc_Table_More R x0 x1 x2 w) : CallP P F_crc_Table_More [.pointer x0, .int .u32 x1, x2.v] w R := mkC (an := ⟨[], [(6, [(7, (.int .u32)), (22, (.int .i64))])], []⟩) Tryz.func158 (by kernel_rfl) h


/-- (*sync.Once).Do -/
def S_sync_Once_Do (R : Value → World → Prop) (x0 : Option Addr) (x1 : Value) (w : World) : Prop :=
 nilCk x0 fun (a0 : Addr) =>
 CallP P F_sync_atomic_Bool_Load [(.pointer (some (a0.add 0)))] w fun (v1 : Value) w2 =>
 TyP .bool v1 fun (b3 : Bool) =>
 ifB (!b3)
 (CallP P F_sync_Once_doSlow [(.pointer x0), x1] w2 fun (v4 : Value) w5 =>
 TupP [] v4 fun (t6 : Unit) =>
 R (.tuple #[]) w5)
 (R (.tuple #[]) w2)
theorem c_sync_Once_Do {R : Value → World → Prop} {x0 : Option Addr} {x1 : Value} {w : World} (h : S_sync_Once_Do R x0 x1 w) : CallP P F_sync_Once_Do [.pointer x0, x1] w R := mkC (an := ⟨[], [], []⟩) Tryz.func179 (by kernel_rfl) h


/-- (*penstock/crc.Table).fill -/
def S_crc_Table_fill (R : Value → World → Prop) (x0 : Option Addr) (w : World) : Prop :=
 LoopP (T := Int × Unit) (some (0, ())) w fun next0 t1 w2 =>
 ifB (decide (t1.fst < 256))
 (LoopP (T := Int × Int × Unit) (some ((IntKind.u32.wrap t1.fst), (0, ()))) w2 fun next3 t4 w5 =>
 ifB (decide (t4.snd.fst < 8))
 (ifB (IntKind.u32.wrap (↑(BitVec.ofInt 32 t4.fst &&& BitVec.ofInt 32 1).toNat : Int) == 1)
 (next3 (some ((IntKind.u32.wrap (↑(BitVec.ofInt 32 (Int.fdiv t4.fst (2 ^ 1)) ^^^ BitVec.ofInt 32 2197175160).toNat : Int)), ((IntKind.i64.wrap (t4.snd.fst + 1)), ()))) w5)
 (next3 (some ((Int.fdiv t4.fst (2 ^ 1)), ((IntKind.i64.wrap (t4.snd.fst + 1)), ()))) w5))
 (nilCk x0 fun (a6 : Addr) =>
 RunQ .addr P (Instr.indexAt T_256_uint32 (.pointer (some (a6.add 3))) (.int .i64 t1.fst)) w5 fun (a7 : Addr) =>
 StoreP P T_uint32 (.pointer (some a7)) (.int .u32 t4.fst) w5 fun w8 =>
 next0 (some ((IntKind.i64.wrap (t1.fst + 1)), ())) w8))
 (R (.tuple #[]) w2)
theorem c_crc_Table_fill {R : Value → World → Prop} {x0 : Option Addr} {w : World} (h : S_crc_Table_fill R x0 w) : CallP P F_crc_Table_fill [.pointer x0] w R := mkC (an := ⟨[], [(5, [(3, (.int .u32)), (9, (.int .i64))]), (1, [(4, (.int .i64))])], []⟩) Tryz.func180 (by kernel_rfl) h


/-- (*sync/atomic.Bool).Load -/
def S_sync_atomic_Bool_Load (R : Value → World → Prop) (x0 : Option Addr) (w : World) : Prop :=
 nilCk x0 fun (a0 : Addr) =>
 RunN P (callFunc 202 #[(.pointer (some (a0.add 0)))]) w fun (v1 : Value) w2 =>
 TyP (.int .u32) v1 fun (n3 : Int) =>
 R (.bool (n3 != 0)) w2
theorem c_sync_atomic_Bool_Load {R : Value → World → Prop} {x0 : Option Addr} {w : World} (h : S_sync_atomic_Bool_Load R x0 w) : CallP P F_sync_atomic_Bool_Load [.pointer x0] w R := mkC (an := ⟨[], [], []⟩) Tryz.func195 (by kernel_rfl) h


end Go.Proofs.YtnjadekngjgjcaaGreatDoor
