/- The functions of the program as predicates over worlds, written by a program of mine (PkPrint); each is held against the code by the kernel. -/
import Derived.Test.YtbpcichakchpkaaGreatDoorN
namespace Go.Proofs.YtbpcichakchpkaaGreatDoor
open Go Go.Pk
/-- penstock/frame.New -/
def S_frame_New (R : Value → World → Prop) (w : World) : Prop :=
 CallP P F_crc_New [] w fun (v0 : Value) w1 =>
 TyP .ptr v0 fun (p2 : Option Addr) =>
  RunK .addr P (Instr.box T_frame_Framer (.agg #[(.pointer p2)])) w1 fun (a3 : Addr) w4 =>
   R (.pointer (some a3)) w4
def an_frame_New : Ann := ⟨[], [], []⟩
theorem e_frame_New (R : Value → World → Prop) (w : World) : denF P an_frame_New Tryz.f40 [] w R = S_frame_New R  w := by kernel_rfl
theorem c_frame_New {R : Value → World → Prop} {w : World} (h : S_frame_New R  w) : CallP P F_frame_New [] w R := calls_of_denF (an := an_frame_New) Tryz.func40 (by rw [e_frame_New]; exact h)


/-- (*penstock/frame.Framer).Encode -/
def S_frame_Framer_Encode (R : Value → World → Prop) (x0 : Option Addr) (x1 : Sl) (w : World) : Prop :=
 ifB (Option.isNone x0)
 (R (.tuple #[(.slice none 0 0), (.int .i64 5)]) w)
 (ifB (decide ((↑x1.len : Int) > 4096))
  (R (.tuple #[(.slice none 0 0), (.int .i64 2)]) w)
  (CallP P F_codec_NewWriter [] w fun (v0 : Value) w1 =>
   TyP .ptr v0 fun (p2 : Option Addr) =>
    CallP P F_codec_Writer_Fixed [(.pointer p2), (.int .u32 (IntKind.u32.wrap (↑x1.len : Int)))] w1 fun (v3 : Value) w4 =>
     TupP [] v3 fun (t5 : Unit) =>
      nilCk x0 fun (a6 : Addr) =>
       RunQ .ptr P (Instr.loadAt T_p_crc_Table (.pointer (some (a6.add 0)))) w4 fun (p7 : Option Addr) =>
        CallP P F_crc_Table_Sum [(.pointer p7), x1.v] w4 fun (v8 : Value) w9 =>
         TyP (.int .u32) v8 fun (n10 : Int) =>
          CallP P F_codec_Writer_Fixed [(.pointer p2), (.int .u32 n10)] w9 fun (v11 : Value) w12 =>
           TupP [] v11 fun (t13 : Unit) =>
            CallP P F_codec_Writer_Out [(.pointer p2)] w12 fun (v14 : Value) w15 =>
             TupP [.sl, (.int .i64)] v14 fun (t16 : Sl × Int × Unit) =>
              RunK .sl P (Builtin.append_ #[T_sl_uint8, T_sl_uint8] T_sl_uint8 #[t16.fst.v, x1.v]) w15 fun (s17 : Sl) w18 =>
               R (.tuple #[s17.v, (.int .i64 0)]) w18))
def an_frame_Framer_Encode : Ann := ⟨[], [], []⟩
theorem e_frame_Framer_Encode (R : Value → World → Prop) (x0 : Option Addr) (x1 : Sl) (w : World) : denF P an_frame_Framer_Encode Tryz.f51 [.pointer x0, x1.v] w R = S_frame_Framer_Encode R x0 x1 w := by kernel_rfl
theorem c_frame_Framer_Encode {R : Value → World → Prop} {x0 : Option Addr} {x1 : Sl} {w : World} (h : S_frame_Framer_Encode R x0 x1 w) : CallP P F_frame_Framer_Encode [.pointer x0, x1.v] w R := calls_of_denF (an := an_frame_Framer_Encode) Tryz.func51 (by rw [e_frame_Framer_Encode]; exact h)


/-- penstock/crc.New -/
def S_crc_New (R : Value → World → Prop) (w : World) : Prop :=
 RunK .addr P (Instr.box T_crc_Table (.agg #[(.int .u32 0), (.int .i32 0), (.int .u32 0), (.int .u32 0), (.int .u32 0), (.int .u32 0), (.int .u32 0), (.int .u32 0), (.int .u32 0), (.int .u32 0), (.int .u32 0), (.int .u32 0), (.int .u32 0), (.int .u32 0), (.int .u32 0), (.int .u32 0), (.int .u32 0), (.int .u32 0), (.int .u32 0), (.int .u32 0), (.int .u32 0), (.int .u32 0), (.int .u32 0), (.int .u32 0), (.int .u32 0), (.int .u32 0), (.int .u32 0), (.int .u32 0), (.int .u32 0), (.int .u32 0), (.int .u32 0), (.int .u32 0), (.int .u32 0), (.int .u32 0), (.int .u32 0), (.int .u32 0), (.int .u32 0), (.int .u32 0), (.int .u32 0), (.int .u32 0), (.int .u32 0), (.int .u32 0), (.int .u32 0), (.int .u32 0), (.int .u32 0), (.int .u32 0), (.int .u32 0), (.int .u32 0), (.int .u32 0), (.int .u32 0), (.int .u32 0), (.int .u32 0), (.int .u32 0), (.int .u32 0), (.int .u32 0), (.int .u32 0), (.int .u32 0), (.int .u32 0), (.int .u32 0), (.int .u32 0), (.int .u32 0), (.int .u32 0), (.int .u32 0), (.int .u32 0), (.int .u32 0), (.int .u32 0), (.int .u32 0), (.int .u32 0), (.int .u32 0), (.int .u32 0), (.int .u32 0), (.int .u32 0), (.int .u32 0), (.int .u32 0), (.int .u32 0), (.int .u32 0), (.int .u32 0), (.int .u32 0), (.int .u32 0), (.int .u32 0), (.int .u32 0), (.int .u32 0), (.int .u32 0), (.int .u32 0), (.int .u32 0), (.int .u32 0), (.int .u32 0), (.int .u32 0), (.int .u32 0), (.int .u32 0), (.int .u32 0), (.int .u32 0), (.int .u32 0), (.int .u32 0), (.int .u32 0), (.int .u32 0), (.int .u32 0), (.int .u32 0), (.int .u32 0), (.int .u32 0), (.int .u32 0), (.int .u32 0), (.int .u32 0), (.int .u32 0), (.int .u32 0), (.int .u32 0), (.int .u32 0), (.int .u32 0), (.int .u32 0), (.int .u32 0), (.int .u32 0), (.int .u32 0), (.int .u32 0), (.int .u32 0), (.int .u32 0), (.int .u32 0), (.int .u32 0), (.int .u32 0), (.int .u32 0), (.int .u32 0), (.int .u32 0), (.int .u32 0), (.int .u32 0), (.int .u32 0), (.int .u32 0), (.int .u32 0), (.int .u32 0), (.int .u32 0), (.int .u32 0), (.int .u32 0), (.int .u32 0), (.int .u32 0), (.int .u32 0), (.int .u32 0), (.int .u32 0), (.int .u32 0), (.int .u32 0), (.int .u32 0), (.int .u32 0), (.int .u32 0), (.int .u32 0), (.int .u32 0), (.int .u32 0), (.int .u32 0), (.int .u32 0), (.int .u32 0), (.int .u32 0), (.int .u32 0), (.int .u32 0), (.int .u32 0), (.int .u32 0), (.int .u32 0), (.int .u32 0), (.int .u32 0), (.int .u32 0), (.int .u32 0), (.int .u32 0), (.int .u32 0), (.int .u32 0), (.int .u32 0), (.int .u32 0), (.int .u32 0), (.int .u32 0), (.int .u32 0), (.int .u32 0), (.int .u32 0), (.int .u32 0), (.int .u32 0), (.int .u32 0), (.int .u32 0), (.int .u32 0), (.int .u32 0), (.int .u32 0), (.int .u32 0), (.int .u32 0), (.int .u32 0), (.int .u32 0), (.int .u32 0), (.int .u32 0), (.int .u32 0), (.int .u32 0), (.int .u32 0), (.int .u32 0), (.int .u32 0), (.int .u32 0), (.int .u32 0), (.int .u32 0), (.int .u32 0), (.int .u32 0), (.int .u32 0), (.int .u32 0), (.int .u32 0), (.int .u32 0), (.int .u32 0), (.int .u32 0), (.int .u32 0), (.int .u32 0), (.int .u32 0), (.int .u32 0), (.int .u32 0), (.int .u32 0), (.int .u32 0), (.int .u32 0), (.int .u32 0), (.int .u32 0), (.int .u32 0), (.int .u32 0), (.int .u32 0), (.int .u32 0), (.int .u32 0), (.int .u32 0), (.int .u32 0), (.int .u32 0), (.int .u32 0), (.int .u32 0), (.int .u32 0), (.int .u32 0), (.int .u32 0), (.int .u32 0), (.int .u32 0), (.int .u32 0), (.int .u32 0), (.int .u32 0), (.int .u32 0), (.int .u32 0), (.int .u32 0), (.int .u32 0), (.int .u32 0), (.int .u32 0), (.int .u32 0), (.int .u32 0), (.int .u32 0), (.int .u32 0), (.int .u32 0), (.int .u32 0), (.int .u32 0), (.int .u32 0), (.int .u32 0), (.int .u32 0), (.int .u32 0), (.int .u32 0), (.int .u32 0), (.int .u32 0), (.int .u32 0), (.int .u32 0), (.int .u32 0), (.int .u32 0), (.int .u32 0), (.int .u32 0), (.int .u32 0), (.int .u32 0), (.int .u32 0), (.int .u32 0), (.int .u32 0), (.int .u32 0), (.int .u32 0), (.int .u32 0), (.int .u32 0), (.int .u32 0)])) w fun (a0 : Addr) w1 =>
 R (.pointer (some a0)) w1
def an_crc_New : Ann := ⟨[], [], []⟩
theorem e_crc_New (R : Value → World → Prop) (w : World) : denF P an_crc_New Tryz.f72 [] w R = S_crc_New R  w := by kernel_rfl
theorem c_crc_New {R : Value → World → Prop} {w : World} (h : S_crc_New R  w) : CallP P F_crc_New [] w R := calls_of_denF (an := an_crc_New) Tryz.func72 (by rw [e_crc_New]; exact h)


/-- (*penstock/frame.Framer).Decode -/
def S_frame_Framer_Decode (R : Value → World → Prop) (x0 : Option Addr) (x1 : Sl) (w : World) : Prop :=
 ifB (Option.isNone x0)
 (R (.tuple #[(.slice none 0 0), (.int .i64 0), (.int .i64 5)]) w)
 (RunQ .sl P (Instr.sliceAt T_sl_uint8 x1.v none (some (.int .i64 (if 8 < (↑x1.len : Int) then 8 else (↑x1.len : Int)))) none) w fun (s0 : Sl) =>
  CallP P F_codec_NewReader [s0.v] w fun (v1 : Value) w2 =>
   TyP .ptr v1 fun (p3 : Option Addr) =>
    CallP P F_codec_Reader_Fixed [(.pointer p3)] w2 fun (v4 : Value) w5 =>
     TyP (.int .u32) v4 fun (n6 : Int) =>
      CallP P F_codec_Reader_Fixed [(.pointer p3)] w5 fun (v7 : Value) w8 =>
       TyP (.int .u32) v7 fun (n9 : Int) =>
        CallP P F_codec_Reader_State [(.pointer p3)] w8 fun (v10 : Value) w11 =>
         TupP [(.int .i64), (.int .i64), (.int .i64)] v10 fun (t12 : Int × Int × Int × Unit) =>
          ifB (t12.snd.snd.fst != 0)
           (R (.tuple #[(.slice none 0 0), (.int .i64 0), (.int .i64 6)]) w11)
           (ifB (decide (n6 > 4096))
            (R (.tuple #[(.slice none 0 0), (.int .i64 0), (.int .i64 2)]) w11)
            (ifB (decide (IntKind.i64.wrap ((↑x1.len : Int) - 8) < IntKind.i64.wrap n6))
             (R (.tuple #[(.slice none 0 0), (.int .i64 0), (.int .i64 6)]) w11)
             (RunQ .sl P (Instr.sliceAt T_sl_uint8 x1.v (some (.int .i64 8)) (some (.int .i64 (IntKind.i64.wrap (8 + IntKind.i64.wrap n6)))) none) w11 fun (s13 : Sl) =>
              RunK .sl P (Builtin.append_ #[T_sl_uint8, T_sl_uint8] T_sl_uint8 #[(.slice none 0 0), s13.v]) w11 fun (s14 : Sl) w15 =>
               nilCk x0 fun (a16 : Addr) =>
                RunQ .ptr P (Instr.loadAt T_p_crc_Table (.pointer (some (a16.add 0)))) w15 fun (p17 : Option Addr) =>
                CallP P F_crc_Table_Sum [(.pointer p17), s14.v] w15 fun (v18 : Value) w19 =>
                TyP (.int .u32) v18 fun (n20 : Int) =>
                ifB (n20 != n9)
                (R (.tuple #[(.slice none 0 0), (.int .i64 0), (.int .i64 8)]) w19)
                (R (.tuple #[s14.v, (.int .i64 (IntKind.i64.wrap (8 + IntKind.i64.wrap n6))), (.int .i64 0)]) w19)))))
def an_frame_Framer_Decode : Ann := ⟨[], [], []⟩
theorem e_frame_Framer_Decode (R : Value → World → Prop) (x0 : Option Addr) (x1 : Sl) (w : World) : denF P an_frame_Framer_Decode Tryz.f79 [.pointer x0, x1.v] w R = S_frame_Framer_Decode R x0 x1 w := by kernel_rfl
theorem c_frame_Framer_Decode {R : Value → World → Prop} {x0 : Option Addr} {x1 : Sl} {w : World} (h : S_frame_Framer_Decode R x0 x1 w) : CallP P F_frame_Framer_Decode [.pointer x0, x1.v] w R := calls_of_denF (an := an_frame_Framer_Decode) Tryz.func79 (by rw [e_frame_Framer_Decode]; exact h)


/-- (*penstock/crc.Table).Sum -/
def S_crc_Table_Sum (R : Value → World → Prop) (x0 : Option Addr) (x1 : Sl) (w : World) : Prop :=
 CallP P F_crc_Table_More [(.pointer x0), (.int .u32 0), x1.v] w fun (v0 : Value) w1 =>
 TyP (.int .u32) v0 fun (n2 : Int) =>
  R (.int .u32 n2) w1
def an_crc_Table_Sum : Ann := ⟨[], [], []⟩
theorem e_crc_Table_Sum (R : Value → World → Prop) (x0 : Option Addr) (x1 : Sl) (w : World) : denF P an_crc_Table_Sum Tryz.f89 [.pointer x0, x1.v] w R = S_crc_Table_Sum R x0 x1 w := by kernel_rfl
theorem c_crc_Table_Sum {R : Value → World → Prop} {x0 : Option Addr} {x1 : Sl} {w : World} (h : S_crc_Table_Sum R x0 x1 w) : CallP P F_crc_Table_Sum [.pointer x0, x1.v] w R := calls_of_denF (an := an_crc_Table_Sum) Tryz.func89 (by rw [e_crc_Table_Sum]; exact h)


/-- (*penstock/crc.Table).More -/
def S_crc_Table_More (R : Value → World → Prop) (x0 : Option Addr) (x1 : Int) (x2 : Sl) (w : World) : Prop :=
 ifB (Option.isNone x0)
 (R (.int .u32 0) w)
 (nilCk x0 fun (a0 : Addr) =>
  CallP P F_sync_Once_Do [(.pointer (some (a0.add 0))), (.func (Go.Fn.func 135) #[(.pointer x0)] #[])] w fun (v1 : Value) w2 =>
   TupP [] v1 fun (t3 : Unit) =>
    LoopP (T := Int × Int × Unit) (some ((IntKind.u32.wrap (↑(BitVec.ofInt 32 (if IntKind.u32.signed = true then -1 else IntKind.u32.max) ^^^ BitVec.ofInt 32 x1).toNat : Int)), (0, ()))) w2 fun next4 t5 w6 =>
     ifB (decide (t5.snd.fst < (↑x2.len : Int)))
      (RunQ .addr P (Instr.indexAt T_sl_uint8 x2.v (.int .i64 t5.snd.fst)) w6 fun (a7 : Addr) =>
       RunQ (.int .u8) P (Instr.loadAt T_uint8 (.pointer (some a7))) w6 fun (n8 : Int) =>
        nilCk x0 fun (a9 : Addr) =>
         RunQ .addr P (Instr.indexAt T_256_uint32 (.pointer (some (a9.add 3))) (.int .u8 (IntKind.u8.wrap (↑(BitVec.ofInt 8 (IntKind.u8.wrap t5.fst) ^^^ BitVec.ofInt 8 n8).toNat : Int)))) w6 fun (a10 : Addr) =>
          RunQ (.int .u32) P (Instr.loadAt T_uint32 (.pointer (some a10))) w6 fun (n11 : Int) =>
           next4 (some ((IntKind.u32.wrap (↑(BitVec.ofInt 32 n11 ^^^ BitVec.ofInt 32 (Int.fdiv t5.fst (2 ^ 8))).toNat : Int)), ((IntKind.i64.wrap (t5.snd.fst + 1)), ()))) w6)
      (R (.int .u32 (IntKind.u32.wrap (↑(BitVec.ofInt 32 (if IntKind.u32.signed = true then -1 else IntKind.u32.max) ^^^ BitVec.ofInt 32 t5.fst).toNat : Int))) w6))
def an_crc_Table_More : Ann := ⟨[], [(6, [(7, (.int .u32)), (22, (.int .i64))])], []⟩
theorem e_crc_Table_More (R : Value → World → Prop) (x0 : Option Addr) (x1 : Int) (x2 : Sl) (w : World) : denF P an_crc_Table_More Tryz.f113 [.pointer x0, .int .u32 x1, x2.v] w R = S_crc_Table_More R x0 x1 x2 w := by kernel_rfl
theorem c_crc_Table_More {R : Value → World → Prop} {x0 : Option Addr} {x1 : Int} {x2 : Sl} {w : World} (h : S_crc_Table_More R x0 x1 x2 w) : CallP P F_crc_Table_More [.pointer x0, .int .u32 x1, x2.v] w R := calls_of_denF (an := an_crc_Table_More) Tryz.func113 (by rw [e_crc_Table_More]; exact h)


/-- (*sync.Once).Do -/
def S_sync_Once_Do (R : Value → World → Prop) (x0 : Option Addr) (x1 : Value) (w : World) : Prop :=
 nilCk x0 fun (a0 : Addr) =>
 CallP P F_sync_atomic_Bool_Load [(.pointer (some (a0.add 0)))] w fun (v1 : Value) w2 =>
  TyP .bool v1 fun (b3 : Bool) =>
   ifB (!b3)
    (CallP P F_sync_Once_doSlow [(.pointer x0), x1] w2 fun (v4 : Value) w5 =>
     TupP [] v4 fun (t6 : Unit) =>
      R (.tuple #[]) w5)
    (R (.tuple #[]) w2)
def an_sync_Once_Do : Ann := ⟨[], [], []⟩
theorem e_sync_Once_Do (R : Value → World → Prop) (x0 : Option Addr) (x1 : Value) (w : World) : denF P an_sync_Once_Do Tryz.f134 [.pointer x0, x1] w R = S_sync_Once_Do R x0 x1 w := by kernel_rfl
theorem c_sync_Once_Do {R : Value → World → Prop} {x0 : Option Addr} {x1 : Value} {w : World} (h : S_sync_Once_Do R x0 x1 w) : CallP P F_sync_Once_Do [.pointer x0, x1] w R := calls_of_denF (an := an_sync_Once_Do) Tryz.func134 (by rw [e_sync_Once_Do]; exact h)


/-- (*penstock/crc.Table).fill -/
def S_crc_Table_fill (R : Value → World → Prop) (x0 : Option Addr) (w : World) : Prop :=
 LoopP (T := Int × Unit) (some (0, ())) w fun next0 t1 w2 =>
 ifB (decide (t1.fst < 256))
  (LoopP (T := Int × Int × Unit) (some ((IntKind.u32.wrap t1.fst), (0, ()))) w2 fun next3 t4 w5 =>
   ifB (decide (t4.snd.fst < 8))
    (ifB (IntKind.u32.wrap (↑(BitVec.ofInt 32 t4.fst &&& BitVec.ofInt 32 1).toNat : Int) == 1)
     (next3 (some ((IntKind.u32.wrap (↑(BitVec.ofInt 32 (Int.fdiv t4.fst (2 ^ 1)) ^^^ BitVec.ofInt 32 2197175160).toNat : Int)), ((IntKind.i64.wrap (t4.snd.fst + 1)), ()))) w5)
     (next3 (some ((Int.fdiv t4.fst (2 ^ 1)), ((IntKind.i64.wrap (t4.snd.fst + 1)), ()))) w5))
    (nilCk x0 fun (a6 : Addr) =>
     RunQ .addr P (Instr.indexAt T_256_uint32 (.pointer (some (a6.add 3))) (.int .i64 t1.fst)) w5 fun (a7 : Addr) =>
      StoreP P T_uint32 (.pointer (some a7)) (.int .u32 t4.fst) w5 fun w8 =>
       next0 (some ((IntKind.i64.wrap (t1.fst + 1)), ())) w8))
  (R (.tuple #[]) w2)
def an_crc_Table_fill : Ann := ⟨[], [(5, [(3, (.int .u32)), (9, (.int .i64))]), (1, [(4, (.int .i64))])], []⟩
theorem e_crc_Table_fill (R : Value → World → Prop) (x0 : Option Addr) (w : World) : denF P an_crc_Table_fill Tryz.f135 [.pointer x0] w R = S_crc_Table_fill R x0 w := by kernel_rfl
theorem c_crc_Table_fill {R : Value → World → Prop} {x0 : Option Addr} {w : World} (h : S_crc_Table_fill R x0 w) : CallP P F_crc_Table_fill [.pointer x0] w R := calls_of_denF (an := an_crc_Table_fill) Tryz.func135 (by rw [e_crc_Table_fill]; exact h)


/-- (*sync/atomic.Bool).Load -/
def S_sync_atomic_Bool_Load (R : Value → World → Prop) (x0 : Option Addr) (w : World) : Prop :=
 nilCk x0 fun (a0 : Addr) =>
 RunN P (callFunc 157 #[(.pointer (some (a0.add 0)))]) w fun (v1 : Value) w2 =>
  TyP (.int .u32) v1 fun (n3 : Int) =>
   R (.bool (n3 != 0)) w2
def an_sync_atomic_Bool_Load : Ann := ⟨[], [], []⟩
theorem e_sync_atomic_Bool_Load (R : Value → World → Prop) (x0 : Option Addr) (w : World) : denF P an_sync_atomic_Bool_Load Tryz.f150 [.pointer x0] w R = S_sync_atomic_Bool_Load R x0 w := by kernel_rfl
theorem c_sync_atomic_Bool_Load {R : Value → World → Prop} {x0 : Option Addr} {w : World} (h : S_sync_atomic_Bool_Load R x0 w) : CallP P F_sync_atomic_Bool_Load [.pointer x0] w R := calls_of_denF (an := an_sync_atomic_Bool_Load) Tryz.func150 (by rw [e_sync_atomic_Bool_Load]; exact h)


/-- (*sync.Once).doSlow -/
def S_sync_Once_doSlow (R : Value → World → Prop) (x0 : Option Addr) (x1 : Value) (w : World) : Prop :=
 nilCk x0 fun (a0 : Addr) =>
 CallP P F_sync_Mutex_Lock [(.pointer (some (a0.add 1)))] w fun (v1 : Value) w2 =>
  TupP [] v1 fun (t3 : Unit) =>
   nilCk x0 fun (a4 : Addr) =>
    False
def an_sync_Once_doSlow : Ann := ⟨[], [], []⟩
theorem e_sync_Once_doSlow (R : Value → World → Prop) (x0 : Option Addr) (x1 : Value) (w : World) : denF P an_sync_Once_doSlow Tryz.f151 [.pointer x0, x1] w R = S_sync_Once_doSlow R x0 x1 w := by kernel_rfl
theorem c_sync_Once_doSlow {R : Value → World → Prop} {x0 : Option Addr} {x1 : Value} {w : World} (h : S_sync_Once_doSlow R x0 x1 w) : CallP P F_sync_Once_doSlow [.pointer x0, x1] w R := calls_of_denF (an := an_sync_Once_doSlow) Tryz.func151 (by rw [e_sync_Once_doSlow]; exact h)


/-- (*sync.Mutex).Lock -/
def S_sync_Mutex_Lock (R : Value → World → Prop) (x0 : Option Addr) (w : World) : Prop :=
 nilCk x0 fun (a0 : Addr) =>
 CallP P F_internal_sync_Mutex_Lock [(.pointer (some (a0.add 0)))] w fun (v1 : Value) w2 =>
  TupP [] v1 fun (t3 : Unit) =>
   R (.tuple #[]) w2
def an_sync_Mutex_Lock : Ann := ⟨[], [], []⟩
theorem e_sync_Mutex_Lock (R : Value → World → Prop) (x0 : Option Addr) (w : World) : denF P an_sync_Mutex_Lock Tryz.f158 [.pointer x0] w R = S_sync_Mutex_Lock R x0 w := by kernel_rfl
theorem c_sync_Mutex_Lock {R : Value → World → Prop} {x0 : Option Addr} {w : World} (h : S_sync_Mutex_Lock R x0 w) : CallP P F_sync_Mutex_Lock [.pointer x0] w R := calls_of_denF (an := an_sync_Mutex_Lock) Tryz.func158 (by rw [e_sync_Mutex_Lock]; exact h)


/-- (*sync.Mutex).Unlock -/
def S_sync_Mutex_Unlock (R : Value → World → Prop) (x0 : Option Addr) (w : World) : Prop :=
 nilCk x0 fun (a0 : Addr) =>
 CallP P F_internal_sync_Mutex_Unlock [(.pointer (some (a0.add 0)))] w fun (v1 : Value) w2 =>
  TupP [] v1 fun (t3 : Unit) =>
   R (.tuple #[]) w2
def an_sync_Mutex_Unlock : Ann := ⟨[], [], []⟩
theorem e_sync_Mutex_Unlock (R : Value → World → Prop) (x0 : Option Addr) (w : World) : denF P an_sync_Mutex_Unlock Tryz.f159 [.pointer x0] w R = S_sync_Mutex_Unlock R x0 w := by kernel_rfl
theorem c_sync_Mutex_Unlock {R : Value → World → Prop} {x0 : Option Addr} {w : World} (h : S_sync_Mutex_Unlock R x0 w) : CallP P F_sync_Mutex_Unlock [.pointer x0] w R := calls_of_denF (an := an_sync_Mutex_Unlock) Tryz.func159 (by rw [e_sync_Mutex_Unlock]; exact h)


/-- (*sync/atomic.Bool).Store -/
def S_sync_atomic_Bool_Store (R : Value → World → Prop) (x0 : Option Addr) (x1 : Bool) (w : World) : Prop :=
 ∃ S0 : World → Prop, (S0 w.drew) ∧
  nilCk x0 fun (a1 : Addr) =>
   CallP P F_sync_atomic_b32 [(.bool x1)] w.drew fun (v2 : Value) w3 =>
    TyP (.int .u32) v2 fun (n4 : Int) =>
     (S0 w3) ∧
      RunN P (callFunc 165 #[(.pointer (some (a1.add 0))), (.int .u32 n4)]) w3 fun (v5 : Value) w6 =>
       TupP [] v5 fun (t7 : Unit) =>
        (S0 w6) ∧
         R (.tuple #[]) w6
def an_sync_atomic_Bool_Store : Ann := ⟨[], [], []⟩
theorem e_sync_atomic_Bool_Store (R : Value → World → Prop) (x0 : Option Addr) (x1 : Bool) (w : World) : denF P an_sync_atomic_Bool_Store Tryz.f160 [.pointer x0, .bool x1] w R = S_sync_atomic_Bool_Store R x0 x1 w := by kernel_rfl
theorem c_sync_atomic_Bool_Store {R : Value → World → Prop} {x0 : Option Addr} {x1 : Bool} {w : World} (h : S_sync_atomic_Bool_Store R x0 x1 w) : CallP P F_sync_atomic_Bool_Store [.pointer x0, .bool x1] w R := calls_of_denF (an := an_sync_atomic_Bool_Store) Tryz.func160 (by rw [e_sync_atomic_Bool_Store]; exact h)


/-- (*internal/sync.Mutex).Lock -/
def S_internal_sync_Mutex_Lock (R : Value → World → Prop) (x0 : Option Addr) (w : World) : Prop :=
 RunN P (callFunc 167 #[]) w fun (v0 : Value) w1 =>
 TupP [] v0 fun (t2 : Unit) =>
  nilCk x0 fun (a3 : Addr) =>
   RunN P (callFunc 168 #[(.pointer (some (a3.add 0))), (.int .i32 0), (.int .i32 1)]) w1 fun (v4 : Value) w5 =>
    TyP .bool v4 fun (b6 : Bool) =>
     ifB b6
      (RunN P (callFunc 169 #[]) w5 fun (v7 : Value) w8 =>
       TupP [] v7 fun (t9 : Unit) =>
        RunK .val P (convert T_p_sync_Mutex_229 T_unsafe_Pointer (.pointer x0)) w8 fun (v10 : Value) w11 =>
         RunN P (callFunc 170 #[v10]) w11 fun (v12 : Value) w13 =>
          TupP [] v12 fun (t14 : Unit) =>
           R (.tuple #[]) w13)
      (CallP P F_internal_sync_Mutex_lockSlow [(.pointer x0)] w5 fun (v15 : Value) w16 =>
       TupP [] v15 fun (t17 : Unit) =>
        R (.tuple #[]) w16)
def an_internal_sync_Mutex_Lock : Ann := ⟨[], [], []⟩
theorem e_internal_sync_Mutex_Lock (R : Value → World → Prop) (x0 : Option Addr) (w : World) : denF P an_internal_sync_Mutex_Lock Tryz.f163 [.pointer x0] w R = S_internal_sync_Mutex_Lock R x0 w := by kernel_rfl
theorem c_internal_sync_Mutex_Lock {R : Value → World → Prop} {x0 : Option Addr} {w : World} (h : S_internal_sync_Mutex_Lock R x0 w) : CallP P F_internal_sync_Mutex_Lock [.pointer x0] w R := calls_of_denF (an := an_internal_sync_Mutex_Lock) Tryz.func163 (by rw [e_internal_sync_Mutex_Lock]; exact h)


/-- (*internal/sync.Mutex).Unlock -/
def S_internal_sync_Mutex_Unlock (R : Value → World → Prop) (x0 : Option Addr) (w : World) : Prop :=
 JoinP (T := Unit) (fun J0 =>
 nilCk x0 fun (a3 : Addr) =>
  RunQ (.int .i32) P (Instr.loadAt T_int32 (.pointer (some (a3.add 0)))) w fun (n4 : Int) =>
   RunK .val P (convert T_p_sync_Mutex_229 T_unsafe_Pointer (.pointer x0)) w fun (v5 : Value) w6 =>
    RunN P (callFunc 172 #[v5]) w6 fun (v7 : Value) w8 =>
     TupP [] v7 fun (t9 : Unit) =>
      RunN P (callFunc 167 #[]) w8 fun (v10 : Value) w11 =>
       TupP [] v10 fun (t12 : Unit) =>
        J0 (some ()) w11)
 fun t1 w2 =>
 nilCk x0 fun (a13 : Addr) =>
  RunN P (callFunc 173 #[(.pointer (some (a13.add 0))), (.int .i32 (-1))]) w2 fun (v14 : Value) w15 =>
   TyP (.int .i32) v14 fun (n16 : Int) =>
    ifB (n16 != 0)
     (CallP P F_internal_sync_Mutex_unlockSlow [(.pointer x0), (.int .i32 n16)] w15 fun (v17 : Value) w18 =>
      TupP [] v17 fun (t19 : Unit) =>
       RunN P (callFunc 169 #[]) w18 fun (v20 : Value) w21 =>
        TupP [] v20 fun (t22 : Unit) =>
         R (.tuple #[]) w21)
     (RunN P (callFunc 169 #[]) w15 fun (v23 : Value) w24 =>
      TupP [] v23 fun (t25 : Unit) =>
       R (.tuple #[]) w24)
def an_internal_sync_Mutex_Unlock : Ann := ⟨[(3, [])], [], []⟩
theorem e_internal_sync_Mutex_Unlock (R : Value → World → Prop) (x0 : Option Addr) (w : World) : denF P an_internal_sync_Mutex_Unlock Tryz.f164 [.pointer x0] w R = S_internal_sync_Mutex_Unlock R x0 w := by kernel_rfl
theorem c_internal_sync_Mutex_Unlock {R : Value → World → Prop} {x0 : Option Addr} {w : World} (h : S_internal_sync_Mutex_Unlock R x0 w) : CallP P F_internal_sync_Mutex_Unlock [.pointer x0] w R := calls_of_denF (an := an_internal_sync_Mutex_Unlock) Tryz.func164 (by rw [e_internal_sync_Mutex_Unlock]; exact h)


/-- sync/atomic.b32 -/
def S_sync_atomic_b32 (R : Value → World → Prop) (x0 : Bool) (w : World) : Prop :=
 ifB x0
 (R (.int .u32 1) w)
 (R (.int .u32 0) w)
def an_sync_atomic_b32 : Ann := ⟨[], [], []⟩
theorem e_sync_atomic_b32 (R : Value → World → Prop) (x0 : Bool) (w : World) : denF P an_sync_atomic_b32 Tryz.f166 [.bool x0] w R = S_sync_atomic_b32 R x0 w := by kernel_rfl
theorem c_sync_atomic_b32 {R : Value → World → Prop} {x0 : Bool} {w : World} (h : S_sync_atomic_b32 R x0 w) : CallP P F_sync_atomic_b32 [.bool x0] w R := calls_of_denF (an := an_sync_atomic_b32) Tryz.func166 (by rw [e_sync_atomic_b32]; exact h)


/-- (*internal/sync.Mutex).lockSlow -/
def S_internal_sync_Mutex_lockSlow (R : Value → World → Prop) (x0 : Option Addr) (w : World) : Prop :=
 nilCk x0 fun (a0 : Addr) =>
 RunQ (.int .i32) P (Instr.loadAt T_int32 (.pointer (some (a0.add 0)))) w fun (n1 : Int) =>
  LoopP (T := Bool × Int × Int × Int × Bool × Unit) (some (false, (0, (n1, (0, (false, ())))))) w fun next2 t3 w4 =>
   JoinP (T := Bool × Int × Int × Unit) (fun J5 =>
    ifB (IntKind.i32.wrap (↑(BitVec.ofInt 32 t3.snd.snd.fst &&& BitVec.ofInt 32 5).toNat : Int) == 1)
     (RunN P (callFunc 175 #[(.int .i64 t3.snd.fst)]) w4 fun (v8 : Value) w9 =>
      TyP .bool v8 fun (b10 : Bool) =>
       ifB b10
        (JoinP (T := Bool × Unit) (fun J11 =>
         ifB (!t3.fst)
          (ifB (IntKind.i32.wrap (↑(BitVec.ofInt 32 t3.snd.snd.fst &&& BitVec.ofInt 32 2).toNat : Int) == 0)
           (ifB (Int.fdiv t3.snd.snd.fst (2 ^ 3) != 0)
            (nilCk x0 fun (a14 : Addr) =>
             RunN P (callFunc 168 #[(.pointer (some (a14.add 0))), (.int .i32 t3.snd.snd.fst), (.int .i32 (IntKind.i32.wrap (↑(BitVec.ofInt 32 t3.snd.snd.fst ||| BitVec.ofInt 32 2).toNat : Int)))]) w9 fun (v15 : Value) w16 =>
              TyP .bool v15 fun (b17 : Bool) =>
               ifB b17
                (J11 (some (true, ())) w16)
                (J11 (some (t3.fst, ())) w16))
            (J11 (some (t3.fst, ())) w9))
           (J11 (some (t3.fst, ())) w9))
          (J11 (some (t3.fst, ())) w9))
         fun t12 w13 =>
         RunN P (callFunc 176 #[]) w13 fun (v18 : Value) w19 =>
          TupP [] v18 fun (t20 : Unit) =>
           nilCk x0 fun (a21 : Addr) =>
            RunQ (.int .i32) P (Instr.loadAt T_int32 (.pointer (some (a21.add 0)))) w19 fun (n22 : Int) =>
             next2 (some (t12.fst, ((IntKind.i64.wrap (t3.snd.fst + 1)), (n22, (t3.snd.snd.snd.fst, (t3.snd.snd.snd.snd.fst, ())))))) w19)
        (J5 (some (t3.fst, (t3.snd.fst, (t3.snd.snd.fst, ())))) w9))
     (J5 (some (t3.fst, (t3.snd.fst, (t3.snd.snd.fst, ())))) w4))
    fun t6 w7 =>
    JoinP (T := Int × Unit) (fun J23 =>
     ifB (IntKind.i32.wrap (↑(BitVec.ofInt 32 t6.snd.snd.fst &&& BitVec.ofInt 32 4).toNat : Int) == 0)
      (J23 (some ((IntKind.i32.wrap (↑(BitVec.ofInt 32 t6.snd.snd.fst ||| BitVec.ofInt 32 1).toNat : Int)), ())) w7)
      (J23 (some (t6.snd.snd.fst, ())) w7))
     fun t24 w25 =>
     JoinP (T := Int × Unit) (fun J26 =>
      ifB (IntKind.i32.wrap (↑(BitVec.ofInt 32 t6.snd.snd.fst &&& BitVec.ofInt 32 5).toNat : Int) != 0)
       (J26 (some ((IntKind.i32.wrap (t24.fst + 8)), ())) w25)
       (J26 (some (t24.fst, ())) w25))
      fun t27 w28 =>
      JoinP (T := Int × Unit) (fun J29 =>
       ifB t3.snd.snd.snd.snd.fst
        (ifB (IntKind.i32.wrap (↑(BitVec.ofInt 32 t6.snd.snd.fst &&& BitVec.ofInt 32 1).toNat : Int) != 0)
         (J29 (some ((IntKind.i32.wrap (↑(BitVec.ofInt 32 t27.fst ||| BitVec.ofInt 32 4).toNat : Int)), ())) w28)
         (J29 (some (t27.fst, ())) w28))
        (J29 (some (t27.fst, ())) w28))
       fun t30 w31 =>
       JoinP (T := Int × Unit) (fun J32 =>
        ifB t6.fst
         (ifB (IntKind.i32.wrap (↑(BitVec.ofInt 32 t30.fst &&& BitVec.ofInt 32 2).toNat : Int) == 0)
          (RunN P (callFunc 177 #[(.string (ByteArray.mk #[115, 121, 110, 99, 58, 32, 105, 110, 99, 111, 110, 115, 105, 115, 116, 101, 110, 116, 32, 109, 117, 116, 101, 120, 32, 115, 116, 97, 116, 101]))]) w31 fun (v35 : Value) w36 =>
           TupP [] v35 fun (t37 : Unit) =>
            J32 (some ((IntKind.i32.wrap (↑(BitVec.ofInt 32 t30.fst &&& ~~~BitVec.ofInt 32 2).toNat : Int)), ())) w36)
          (J32 (some ((IntKind.i32.wrap (↑(BitVec.ofInt 32 t30.fst &&& ~~~BitVec.ofInt 32 2).toNat : Int)), ())) w31))
         (J32 (some (t30.fst, ())) w31))
        fun t33 w34 =>
        nilCk x0 fun (a38 : Addr) =>
         RunN P (callFunc 168 #[(.pointer (some (a38.add 0))), (.int .i32 t6.snd.snd.fst), (.int .i32 t33.fst)]) w34 fun (v39 : Value) w40 =>
          TyP .bool v39 fun (b41 : Bool) =>
           ifB b41
            (ifB (IntKind.i32.wrap (↑(BitVec.ofInt 32 t6.snd.snd.fst &&& BitVec.ofInt 32 5).toNat : Int) == 0)
             (RunN P (callFunc 169 #[]) w40 fun (v42 : Value) w43 =>
              TupP [] v42 fun (t44 : Unit) =>
               RunK .val P (convert T_p_sync_Mutex_229 T_unsafe_Pointer (.pointer x0)) w43 fun (v45 : Value) w46 =>
                RunN P (callFunc 170 #[v45]) w46 fun (v47 : Value) w48 =>
                TupP [] v47 fun (t49 : Unit) =>
                R (.tuple #[]) w48)
             (JoinP (T := Int × Unit) (fun J50 =>
              ifB (t3.snd.snd.snd.fst == 0)
               (RunN P (callFunc 178 #[]) w40 fun (v53 : Value) w54 =>
                TyP (.int .i64) v53 fun (n55 : Int) =>
                J50 (some (n55, ())) w54)
               (J50 (some (t3.snd.snd.snd.fst, ())) w40))
              fun t51 w52 =>
              nilCk x0 fun (a56 : Addr) =>
               RunN P (callFunc 179 #[(.pointer (some (a56.add 1))), (.bool (t3.snd.snd.snd.fst != 0)), (.int .i64 2)]) w52 fun (v57 : Value) w58 =>
                TupP [] v57 fun (t59 : Unit) =>
                JoinP (T := Bool × Unit) (fun J60 =>
                ifB t3.snd.snd.snd.snd.fst
                (J60 (some (true, ())) w58)
                (RunN P (callFunc 178 #[]) w58 fun (v63 : Value) w64 =>
                TyP (.int .i64) v63 fun (n65 : Int) =>
                J60 (some ((decide (IntKind.i64.wrap (n65 - t51.fst) > 1000000)), ())) w64))
                fun t61 w62 =>
                nilCk x0 fun (a66 : Addr) =>
                RunQ (.int .i32) P (Instr.loadAt T_int32 (.pointer (some (a66.add 0)))) w62 fun (n67 : Int) =>
                ifB (IntKind.i32.wrap (↑(BitVec.ofInt 32 n67 &&& BitVec.ofInt 32 4).toNat : Int) != 0)
                (JoinP (T := Unit) (fun J68 =>
                ifB (IntKind.i32.wrap (↑(BitVec.ofInt 32 n67 &&& BitVec.ofInt 32 3).toNat : Int) != 0)
                (RunN P (callFunc 177 #[(.string (ByteArray.mk #[115, 121, 110, 99, 58, 32, 105, 110, 99, 111, 110, 115, 105, 115, 116, 101, 110, 116, 32, 109, 117, 116, 101, 120, 32, 115, 116, 97, 116, 101]))]) w62 fun (v71 : Value) w72 =>
                TupP [] v71 fun (t73 : Unit) =>
                J68 (some ()) w72)
                (ifB (Int.fdiv n67 (2 ^ 3) == 0)
                (RunN P (callFunc 177 #[(.string (ByteArray.mk #[115, 121, 110, 99, 58, 32, 105, 110, 99, 111, 110, 115, 105, 115, 116, 101, 110, 116, 32, 109, 117, 116, 101, 120, 32, 115, 116, 97, 116, 101]))]) w62 fun (v74 : Value) w75 =>
                TupP [] v74 fun (t76 : Unit) =>
                J68 (some ()) w75)
                (J68 (some ()) w62)))
                fun t69 w70 =>
                JoinP (T := Int × Unit) (fun J77 =>
                ifB (!t61.fst)
                (J77 (some ((IntKind.i32.wrap (-7 - 4)), ())) w70)
                (ifB (Int.fdiv n67 (2 ^ 3) == 1)
                (J77 (some ((IntKind.i32.wrap (-7 - 4)), ())) w70)
                (J77 (some ((-7), ())) w70)))
                fun t78 w79 =>
                nilCk x0 fun (a80 : Addr) =>
                RunN P (callFunc 173 #[(.pointer (some (a80.add 0))), (.int .i32 t78.fst)]) w79 fun (v81 : Value) w82 =>
                TyP (.int .i32) v81 fun (n83 : Int) =>
                RunN P (callFunc 169 #[]) w82 fun (v84 : Value) w85 =>
                TupP [] v84 fun (t86 : Unit) =>
                RunK .val P (convert T_p_sync_Mutex_229 T_unsafe_Pointer (.pointer x0)) w85 fun (v87 : Value) w88 =>
                RunN P (callFunc 170 #[v87]) w88 fun (v89 : Value) w90 =>
                TupP [] v89 fun (t91 : Unit) =>
                R (.tuple #[]) w90)
                (next2 (some (true, (0, (n67, (t51.fst, (t61.fst, ())))))) w62)))
            (nilCk x0 fun (a92 : Addr) =>
             RunQ (.int .i32) P (Instr.loadAt T_int32 (.pointer (some (a92.add 0)))) w40 fun (n93 : Int) =>
              next2 (some (t6.fst, (t6.snd.fst, (n93, (t3.snd.snd.snd.fst, (t3.snd.snd.snd.snd.fst, ())))))) w40)
def an_internal_sync_Mutex_lockSlow : Ann := ⟨[(8, [(4, .bool)]), (36, [(9, (.int .i32))]), (33, []), (29, [(3, .bool)]), (27, [(2, (.int .i64))]), (22, [(7, (.int .i32))]), (18, [(7, (.int .i32))]), (16, [(7, (.int .i32))]), (14, [(7, (.int .i32))]), (11, [(4, .bool), (5, (.int .i64)), (6, (.int .i32))])], [(5, [(4, .bool), (5, (.int .i64)), (6, (.int .i32)), (2, (.int .i64)), (3, .bool)])], []⟩
theorem e_internal_sync_Mutex_lockSlow (R : Value → World → Prop) (x0 : Option Addr) (w : World) : denF P an_internal_sync_Mutex_lockSlow Tryz.f171 [.pointer x0] w R = S_internal_sync_Mutex_lockSlow R x0 w := by kernel_rfl
theorem c_internal_sync_Mutex_lockSlow {R : Value → World → Prop} {x0 : Option Addr} {w : World} (h : S_internal_sync_Mutex_lockSlow R x0 w) : CallP P F_internal_sync_Mutex_lockSlow [.pointer x0] w R := calls_of_denF (an := an_internal_sync_Mutex_lockSlow) Tryz.func171 (by rw [e_internal_sync_Mutex_lockSlow]; exact h)


/-- (*internal/sync.Mutex).unlockSlow -/
def S_internal_sync_Mutex_unlockSlow (R : Value → World → Prop) (x0 : Option Addr) (x1 : Int) (w : World) : Prop :=
 JoinP (T := Unit) (fun J0 =>
 ifB (IntKind.i32.wrap (↑(BitVec.ofInt 32 (IntKind.i32.wrap (x1 + 1)) &&& BitVec.ofInt 32 1).toNat : Int) == 0)
  (RunN P (callFunc 180 #[(.string (ByteArray.mk #[115, 121, 110, 99, 58, 32, 117, 110, 108, 111, 99, 107, 32, 111, 102, 32, 117, 110, 108, 111, 99, 107, 101, 100, 32, 109, 117, 116, 101, 120]))]) w fun (v3 : Value) w4 =>
   TupP [] v3 fun (t5 : Unit) =>
    J0 (some ()) w4)
  (J0 (some ()) w))
 fun t1 w2 =>
 ifB (IntKind.i32.wrap (↑(BitVec.ofInt 32 x1 &&& BitVec.ofInt 32 4).toNat : Int) == 0)
  (LoopP (T := Int × Unit) (some (x1, ())) w2 fun next6 t7 w8 =>
   JoinP (T := Unit) (fun J9 =>
    ifB (Int.fdiv t7.fst (2 ^ 3) == 0)
     (R (.tuple #[]) w8)
     (ifB (IntKind.i32.wrap (↑(BitVec.ofInt 32 t7.fst &&& BitVec.ofInt 32 7).toNat : Int) != 0)
      (R (.tuple #[]) w8)
      (J9 (some ()) w8)))
    fun t10 w11 =>
    nilCk x0 fun (a12 : Addr) =>
     RunN P (callFunc 168 #[(.pointer (some (a12.add 0))), (.int .i32 t7.fst), (.int .i32 (IntKind.i32.wrap (↑(BitVec.ofInt 32 (IntKind.i32.wrap (t7.fst - 8)) ||| BitVec.ofInt 32 2).toNat : Int)))]) w11 fun (v13 : Value) w14 =>
      TyP .bool v13 fun (b15 : Bool) =>
       ifB b15
        (nilCk x0 fun (a16 : Addr) =>
         RunN P (callFunc 181 #[(.pointer (some (a16.add 1))), (.bool false), (.int .i64 2)]) w14 fun (v17 : Value) w18 =>
          TupP [] v17 fun (t19 : Unit) =>
           R (.tuple #[]) w18)
        (nilCk x0 fun (a20 : Addr) =>
         RunQ (.int .i32) P (Instr.loadAt T_int32 (.pointer (some (a20.add 0)))) w14 fun (n21 : Int) =>
          next6 (some (n21, ())) w14))
  (nilCk x0 fun (a22 : Addr) =>
   RunN P (callFunc 181 #[(.pointer (some (a22.add 1))), (.bool true), (.int .i64 2)]) w2 fun (v23 : Value) w24 =>
    TupP [] v23 fun (t25 : Unit) =>
     R (.tuple #[]) w24)
def an_internal_sync_Mutex_unlockSlow : Ann := ⟨[(5, []), (2, [])], [(4, [(4, (.int .i32))])], []⟩
theorem e_internal_sync_Mutex_unlockSlow (R : Value → World → Prop) (x0 : Option Addr) (x1 : Int) (w : World) : denF P an_internal_sync_Mutex_unlockSlow Tryz.f174 [.pointer x0, .int .i32 x1] w R = S_internal_sync_Mutex_unlockSlow R x0 x1 w := by kernel_rfl
theorem c_internal_sync_Mutex_unlockSlow {R : Value → World → Prop} {x0 : Option Addr} {x1 : Int} {w : World} (h : S_internal_sync_Mutex_unlockSlow R x0 x1 w) : CallP P F_internal_sync_Mutex_unlockSlow [.pointer x0, .int .i32 x1] w R := calls_of_denF (an := an_internal_sync_Mutex_unlockSlow) Tryz.func174 (by rw [e_internal_sync_Mutex_unlockSlow]; exact h)

end Go.Proofs.YtbpcichakchpkaaGreatDoor
