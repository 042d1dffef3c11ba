/- The functions of the program as predicates over worlds, written by a program of mine (PkPrint); each is held against the code by the kernel. -/
import Derived.Test.YtokogdigfohbeaaN
namespace Go.Proofs.Ytokogdigfohbeaa
open Go Go.Pk
/-- penstock/penstockref03.Same -/
def S_ref03_Same (R : Value → World → Prop) (x0 : Sl) (x1 : Sl) (w : World) : Prop :=
 ifB ((↑x0.len : Int) != (↑x1.len : Int))
 (R (.bool false) w)
 (LoopP (T := Int × Unit) (some (0, ())) w fun next0 t1 w2 =>
  ifB (decide (t1.fst < (↑x0.len : Int)))
   (RunQ .addr P (Instr.indexAt T_sl_uint8 x0.v (.int .i64 t1.fst)) w2.drew fun (a3 : Addr) =>
    RunQ (.int .u8) P (Instr.loadAt T_uint8 (.pointer (some a3))) w2.drew fun (n4 : Int) =>
     RunQ .addr P (Instr.indexAt T_sl_uint8 x1.v (.int .i64 t1.fst)) w2.drew fun (a5 : Addr) =>
      RunQ (.int .u8) P (Instr.loadAt T_uint8 (.pointer (some a5))) w2.drew fun (n6 : Int) =>
       ifB (n4 != n6)
        (R (.bool false) w2.drew)
        (next0 (some ((IntKind.i64.wrap (t1.fst + 1)), ())) w2.drew))
   (R (.bool true) w2))
def an_ref03_Same : Ann := ⟨[], [(4, [(5, (.int .i64))])], []⟩
theorem e_ref03_Same (R : Value → World → Prop) (x0 : Sl) (x1 : Sl) (w : World) : denF P an_ref03_Same Try.f12 [x0.v, x1.v] w R = S_ref03_Same R x0 x1 w := by kernel_rfl
theorem c_ref03_Same {R : Value → World → Prop} {x0 : Sl} {x1 : Sl} {w : World} (h : S_ref03_Same R x0 x1 w) : CallP P F_ref03_Same [x0.v, x1.v] w R := calls_of_denF (an := an_ref03_Same) Try.func12 (by rw [e_ref03_Same]; exact h)


/-- penstock/penstockref03.Int -/
def S_ref03_Int (R : Value → World → Prop) (x0 : Int) (w : World) : Prop :=
 CallP P F_ref03_Zig [(.int .i64 x0)] w fun (v0 : Value) w1 =>
 TyP (.int .u64) v0 fun (n2 : Int) =>
  CallP P F_ref03_Uint [(.int .u64 n2)] w1 fun (v3 : Value) w4 =>
   TyP .sl v3 fun (s5 : Sl) =>
    R s5.v w4
def an_ref03_Int : Ann := ⟨[], [], []⟩
theorem e_ref03_Int (R : Value → World → Prop) (x0 : Int) (w : World) : denF P an_ref03_Int Try.f17 [.int .i64 x0] w R = S_ref03_Int R x0 w := by kernel_rfl
theorem c_ref03_Int {R : Value → World → Prop} {x0 : Int} {w : World} (h : S_ref03_Int R x0 w) : CallP P F_ref03_Int [.int .i64 x0] w R := calls_of_denF (an := an_ref03_Int) Try.func17 (by rw [e_ref03_Int]; exact h)


/-- penstock/penstockref03.Flag -/
def S_ref03_Flag (R : Value → World → Prop) (x0 : Bool) (w : World) : Prop :=
 ifB x0
 (RunK .sl P (Instr.buildSlice T_sl_uint8 1 #[(0, (.int .u8 1))]) w fun (s0 : Sl) w1 =>
  R s0.v w1)
 (RunK .sl P (Instr.buildSlice T_sl_uint8 1 #[(0, (.int .u8 0))]) w fun (s2 : Sl) w3 =>
  R s2.v w3)
def an_ref03_Flag : Ann := ⟨[], [], []⟩
theorem e_ref03_Flag (R : Value → World → Prop) (x0 : Bool) (w : World) : denF P an_ref03_Flag Try.f19 [.bool x0] w R = S_ref03_Flag R x0 w := by kernel_rfl
theorem c_ref03_Flag {R : Value → World → Prop} {x0 : Bool} {w : World} (h : S_ref03_Flag R x0 w) : CallP P F_ref03_Flag [.bool x0] w R := calls_of_denF (an := an_ref03_Flag) Try.func19 (by rw [e_ref03_Flag]; exact h)


/-- penstock/penstockref03.Uint -/
def S_ref03_Uint (R : Value → World → Prop) (x0 : Int) (w : World) : Prop :=
 LoopP (T := Int × Sl × Unit) (some (x0, (⟨none, 0, 0⟩, ()))) w fun next0 t1 w2 =>
 ifB (IntKind.u64.wrap (Int.tdiv t1.fst 128) == 0)
  (RunK .sl P (Instr.buildSlice T_sl_uint8 1 #[(0, (.int .u8 (IntKind.u8.wrap (Int.tmod t1.fst 128))))]) w2 fun (s3 : Sl) w4 =>
   RunK .sl P (Builtin.append_ #[T_sl_uint8, T_sl_uint8] T_sl_uint8 #[t1.snd.fst.v, s3.v]) w4 fun (s5 : Sl) w6 =>
    R s5.v w6)
  (RunK .sl P (Instr.buildSlice T_sl_uint8 1 #[(0, (.int .u8 (IntKind.u8.wrap (IntKind.u64.wrap (Int.tmod t1.fst 128 + 128)))))]) w2 fun (s7 : Sl) w8 =>
   RunK .sl P (Builtin.append_ #[T_sl_uint8, T_sl_uint8] T_sl_uint8 #[t1.snd.fst.v, s7.v]) w8 fun (s9 : Sl) w10 =>
    next0 (some ((IntKind.u64.wrap (Int.tdiv t1.fst 128)), (s9, ()))) w10)
def an_ref03_Uint : Ann := ⟨[], [(2, [(0, (.int .u64)), (3, .sl)])], []⟩
theorem e_ref03_Uint (R : Value → World → Prop) (x0 : Int) (w : World) : denF P an_ref03_Uint Try.f25 [.int .u64 x0] w R = S_ref03_Uint R x0 w := by kernel_rfl
theorem c_ref03_Uint {R : Value → World → Prop} {x0 : Int} {w : World} (h : S_ref03_Uint R x0 w) : CallP P F_ref03_Uint [.int .u64 x0] w R := calls_of_denF (an := an_ref03_Uint) Try.func25 (by rw [e_ref03_Uint]; exact h)


/-- penstock/penstockref03.Ints -/
def S_ref03_Ints (R : Value → World → Prop) (x0 : Sl) (w : World) : Prop :=
 CallP P F_ref03_Uint [(.int .u64 (IntKind.u64.wrap (↑x0.len : Int)))] w fun (v0 : Value) w1 =>
 TyP .sl v0 fun (s2 : Sl) =>
  LoopP (T := Sl × Int × Unit) (some (s2, (0, ()))) w1 fun next3 t4 w5 =>
   ifB (decide (t4.snd.fst < (↑x0.len : Int)))
    (RunQ .addr P (Instr.indexAt T_sl_int x0.v (.int .i64 t4.snd.fst)) w5 fun (a6 : Addr) =>
     RunQ (.int .i64) P (Instr.loadAt T_int (.pointer (some a6))) w5 fun (n7 : Int) =>
      CallP P F_ref03_Int [(.int .i64 n7)] w5 fun (v8 : Value) w9 =>
       TyP .sl v8 fun (s10 : Sl) =>
        RunK .sl P (Builtin.append_ #[T_sl_uint8, T_sl_uint8] T_sl_uint8 #[t4.fst.v, s10.v]) w9 fun (s11 : Sl) w12 =>
         next3 (some (s11, ((IntKind.i64.wrap (t4.snd.fst + 1)), ()))) w12)
    (R t4.fst.v w5)
def an_ref03_Ints : Ann := ⟨[], [(3, [(3, .sl), (4, (.int .i64))])], []⟩
theorem e_ref03_Ints (R : Value → World → Prop) (x0 : Sl) (w : World) : denF P an_ref03_Ints Try.f26 [x0.v] w R = S_ref03_Ints R x0 w := by kernel_rfl
theorem c_ref03_Ints {R : Value → World → Prop} {x0 : Sl} {w : World} (h : S_ref03_Ints R x0 w) : CallP P F_ref03_Ints [x0.v] w R := calls_of_denF (an := an_ref03_Ints) Try.func26 (by rw [e_ref03_Ints]; exact h)


/-- penstock/codec.NewWriter -/
def S_codec_NewWriter (R : Value → World → Prop) (w : World) : Prop :=
 RunK .addr P (Instr.box T_codec_Writer (.agg #[(.slice none 0 0), (.int .i64 0)])) w fun (a0 : Addr) w1 =>
 R (.pointer (some a0)) w1
def an_codec_NewWriter : Ann := ⟨[], [], []⟩
theorem e_codec_NewWriter (R : Value → World → Prop) (w : World) : denF P an_codec_NewWriter Try.f28 [] w R = S_codec_NewWriter R  w := by kernel_rfl
theorem c_codec_NewWriter {R : Value → World → Prop} {w : World} (h : S_codec_NewWriter R  w) : CallP P F_codec_NewWriter [] w R := calls_of_denF (an := an_codec_NewWriter) Try.func28 (by rw [e_codec_NewWriter]; exact h)


/-- (*penstock/codec.Writer).Out -/
def S_codec_Writer_Out (R : Value → World → Prop) (x0 : Option Addr) (w : World) : Prop :=
 ifB (Option.isNone x0)
 (R (.tuple #[(.slice none 0 0), (.int .i64 5)]) w)
 (nilCk x0 fun (a0 : Addr) =>
  RunQ (.int .i64) P (Instr.loadAt T_api_Errno (.pointer (some (a0.add 1)))) w fun (n1 : Int) =>
   ifB (n1 != 0)
    (nilCk x0 fun (a2 : Addr) =>
     RunQ (.int .i64) P (Instr.loadAt T_api_Errno (.pointer (some (a2.add 1)))) w.drew fun (n3 : Int) =>
      R (.tuple #[(.slice none 0 0), (.int .i64 n3)]) w.drew)
    (nilCk x0 fun (a4 : Addr) =>
     RunQ .sl P (Instr.loadAt T_sl_uint8 (.pointer (some (a4.add 0)))) w fun (s5 : Sl) =>
      RunK .sl P (Builtin.append_ #[T_sl_uint8, T_sl_uint8] T_sl_uint8 #[(.slice none 0 0), s5.v]) w fun (s6 : Sl) w7 =>
       R (.tuple #[s6.v, (.int .i64 0)]) w7))
def an_codec_Writer_Out : Ann := ⟨[], [], []⟩
theorem e_codec_Writer_Out (R : Value → World → Prop) (x0 : Option Addr) (w : World) : denF P an_codec_Writer_Out Try.f31 [.pointer x0] w R = S_codec_Writer_Out R x0 w := by kernel_rfl
theorem c_codec_Writer_Out {R : Value → World → Prop} {x0 : Option Addr} {w : World} (h : S_codec_Writer_Out R x0 w) : CallP P F_codec_Writer_Out [.pointer x0] w R := calls_of_denF (an := an_codec_Writer_Out) Try.func31 (by rw [e_codec_Writer_Out]; exact h)


/-- penstock/codec.NewReader -/
def S_codec_NewReader (R : Value → World → Prop) (x0 : Sl) (w : World) : Prop :=
 RunK .sl P (Builtin.append_ #[T_sl_uint8, T_sl_uint8] T_sl_uint8 #[(.slice none 0 0), x0.v]) w fun (s0 : Sl) w1 =>
 RunK .addr P (Instr.box T_codec_Reader (.agg #[s0.v, (.int .i64 0), (.int .i64 0)])) w1 fun (a2 : Addr) w3 =>
  R (.pointer (some a2)) w3
def an_codec_NewReader : Ann := ⟨[], [], []⟩
theorem e_codec_NewReader (R : Value → World → Prop) (x0 : Sl) (w : World) : denF P an_codec_NewReader Try.f32 [x0.v] w R = S_codec_NewReader R x0 w := by kernel_rfl
theorem c_codec_NewReader {R : Value → World → Prop} {x0 : Sl} {w : World} (h : S_codec_NewReader R x0 w) : CallP P F_codec_NewReader [x0.v] w R := calls_of_denF (an := an_codec_NewReader) Try.func32 (by rw [e_codec_NewReader]; exact h)


/-- penstock/penstockref03.Zig -/
def S_ref03_Zig (R : Value → World → Prop) (x0 : Int) (w : World) : Prop :=
 ifB (decide (x0 ≥ 0))
 (R (.int .u64 (IntKind.u64.wrap (2 * IntKind.u64.wrap x0))) w)
 (R (.int .u64 (IntKind.u64.wrap (IntKind.u64.wrap (2 * IntKind.u64.wrap (IntKind.i64.wrap (0 - IntKind.i64.wrap (x0 + 1)))) + 1))) w)
def an_ref03_Zig : Ann := ⟨[], [], []⟩
theorem e_ref03_Zig (R : Value → World → Prop) (x0 : Int) (w : World) : denF P an_ref03_Zig Try.f35 [.int .i64 x0] w R = S_ref03_Zig R x0 w := by kernel_rfl
theorem c_ref03_Zig {R : Value → World → Prop} {x0 : Int} {w : World} (h : S_ref03_Zig R x0 w) : CallP P F_ref03_Zig [.int .i64 x0] w R := calls_of_denF (an := an_ref03_Zig) Try.func35 (by rw [e_ref03_Zig]; exact h)


/-- penstock/penstockref03.Bytes -/
def S_ref03_Bytes (R : Value → World → Prop) (x0 : Sl) (w : World) : Prop :=
 CallP P F_ref03_Uint [(.int .u64 (IntKind.u64.wrap (↑x0.len : Int)))] w fun (v0 : Value) w1 =>
 TyP .sl v0 fun (s2 : Sl) =>
  RunK .sl P (Builtin.append_ #[T_sl_uint8, T_sl_uint8] T_sl_uint8 #[s2.v, x0.v]) w1 fun (s3 : Sl) w4 =>
   R s3.v w4
def an_ref03_Bytes : Ann := ⟨[], [], []⟩
theorem e_ref03_Bytes (R : Value → World → Prop) (x0 : Sl) (w : World) : denF P an_ref03_Bytes Try.f36 [x0.v] w R = S_ref03_Bytes R x0 w := by kernel_rfl
theorem c_ref03_Bytes {R : Value → World → Prop} {x0 : Sl} {w : World} (h : S_ref03_Bytes R x0 w) : CallP P F_ref03_Bytes [x0.v] w R := calls_of_denF (an := an_ref03_Bytes) Try.func36 (by rw [e_ref03_Bytes]; exact h)


/-- (*penstock/codec.Writer).Int -/
def S_codec_Writer_Int (R : Value → World → Prop) (x0 : Option Addr) (x1 : Int) (w : World) : Prop :=
 CallP P F_codec_Writer_Uint [(.pointer x0), (.int .u64 (IntKind.u64.wrap (↑(BitVec.ofInt 64 (IntKind.u64.wrap (IntKind.u64.wrap x1 * 2 ^ 1)) ^^^ BitVec.ofInt 64 (IntKind.u64.wrap (Int.fdiv x1 (2 ^ 63)))).toNat : Int)))] w fun (v0 : Value) w1 =>
 TupP [] v0 fun (t2 : Unit) =>
  R (.tuple #[]) w1
def an_codec_Writer_Int : Ann := ⟨[], [], []⟩
theorem e_codec_Writer_Int (R : Value → World → Prop) (x0 : Option Addr) (x1 : Int) (w : World) : denF P an_codec_Writer_Int Try.f38 [.pointer x0, .int .i64 x1] w R = S_codec_Writer_Int R x0 x1 w := by kernel_rfl
theorem c_codec_Writer_Int {R : Value → World → Prop} {x0 : Option Addr} {x1 : Int} {w : World} (h : S_codec_Writer_Int R x0 x1 w) : CallP P F_codec_Writer_Int [.pointer x0, .int .i64 x1] w R := calls_of_denF (an := an_codec_Writer_Int) Try.func38 (by rw [e_codec_Writer_Int]; exact h)


/-- (*penstock/codec.Writer).Flag -/
def S_codec_Writer_Flag (R : Value → World → Prop) (x0 : Option Addr) (x1 : Bool) (w : World) : Prop :=
 ifB x1
 (CallP P F_codec_Writer_Uint [(.pointer x0), (.int .u64 1)] w fun (v0 : Value) w1 =>
  TupP [] v0 fun (t2 : Unit) =>
   R (.tuple #[]) w1)
 (CallP P F_codec_Writer_Uint [(.pointer x0), (.int .u64 0)] w fun (v3 : Value) w4 =>
  TupP [] v3 fun (t5 : Unit) =>
   R (.tuple #[]) w4)
def an_codec_Writer_Flag : Ann := ⟨[], [], []⟩
theorem e_codec_Writer_Flag (R : Value → World → Prop) (x0 : Option Addr) (x1 : Bool) (w : World) : denF P an_codec_Writer_Flag Try.f40 [.pointer x0, .bool x1] w R = S_codec_Writer_Flag R x0 x1 w := by kernel_rfl
theorem c_codec_Writer_Flag {R : Value → World → Prop} {x0 : Option Addr} {x1 : Bool} {w : World} (h : S_codec_Writer_Flag R x0 x1 w) : CallP P F_codec_Writer_Flag [.pointer x0, .bool x1] w R := calls_of_denF (an := an_codec_Writer_Flag) Try.func40 (by rw [e_codec_Writer_Flag]; exact h)


/-- (*penstock/codec.Writer).Bytes -/
def S_codec_Writer_Bytes (R : Value → World → Prop) (x0 : Option Addr) (x1 : Sl) (w : World) : Prop :=
 ifB (Option.isNone x0)
 (R (.tuple #[]) w)
 (JoinP (T := Unit) (fun J0 =>
  ifB (decide ((↑x1.len : Int) > 4096))
   (nilCk x0 fun (a3 : Addr) =>
    RunQ (.int .i64) P (Instr.loadAt T_api_Errno (.pointer (some (a3.add 1)))) w fun (n4 : Int) =>
     ifB (n4 == 0)
      (nilCk x0 fun (a5 : Addr) =>
       StoreP P T_api_Errno (.pointer (some (a5.add 1))) (.int .i64 2) w fun w6 =>
        J0 (some ()) w6)
      (J0 (some ()) w))
   (J0 (some ()) w))
  fun t1 w2 =>
  CallP P F_codec_Writer_Uint [(.pointer x0), (.int .u64 (IntKind.u64.wrap (↑x1.len : Int)))] w2 fun (v7 : Value) w8 =>
   TupP [] v7 fun (t9 : Unit) =>
    nilCk x0 fun (a10 : Addr) =>
     RunQ .sl P (Instr.loadAt T_sl_uint8 (.pointer (some (a10.add 0)))) w8 fun (s11 : Sl) =>
      RunK .sl P (Builtin.append_ #[T_sl_uint8, T_sl_uint8] T_sl_uint8 #[s11.v, x1.v]) w8 fun (s12 : Sl) w13 =>
       nilCk x0 fun (a14 : Addr) =>
        StoreP P T_sl_uint8 (.pointer (some (a14.add 0))) s12.v w13 fun w15 =>
         R (.tuple #[]) w15)
def an_codec_Writer_Bytes : Ann := ⟨[(3, [])], [], []⟩
theorem e_codec_Writer_Bytes (R : Value → World → Prop) (x0 : Option Addr) (x1 : Sl) (w : World) : denF P an_codec_Writer_Bytes Try.f44 [.pointer x0, x1.v] w R = S_codec_Writer_Bytes R x0 x1 w := by kernel_rfl
theorem c_codec_Writer_Bytes {R : Value → World → Prop} {x0 : Option Addr} {x1 : Sl} {w : World} (h : S_codec_Writer_Bytes R x0 x1 w) : CallP P F_codec_Writer_Bytes [.pointer x0, x1.v] w R := calls_of_denF (an := an_codec_Writer_Bytes) Try.func44 (by rw [e_codec_Writer_Bytes]; exact h)


/-- (*penstock/codec.Reader).Int -/
def S_codec_Reader_Int (R : Value → World → Prop) (x0 : Option Addr) (w : World) : Prop :=
 CallP P F_codec_Reader_Uint [(.pointer x0)] w fun (v0 : Value) w1 =>
 TyP (.int .u64) v0 fun (n2 : Int) =>
  R (.int .i64 (IntKind.i64.wrap (↑(BitVec.ofInt 64 (IntKind.i64.wrap (Int.fdiv n2 (2 ^ 1))) ^^^ BitVec.ofInt 64 (IntKind.i64.wrap (0 - IntKind.i64.wrap (IntKind.u64.wrap (↑(BitVec.ofInt 64 n2 &&& BitVec.ofInt 64 1).toNat : Int))))).toNat : Int))) w1
def an_codec_Reader_Int : Ann := ⟨[], [], []⟩
theorem e_codec_Reader_Int (R : Value → World → Prop) (x0 : Option Addr) (w : World) : denF P an_codec_Reader_Int Try.f46 [.pointer x0] w R = S_codec_Reader_Int R x0 w := by kernel_rfl
theorem c_codec_Reader_Int {R : Value → World → Prop} {x0 : Option Addr} {w : World} (h : S_codec_Reader_Int R x0 w) : CallP P F_codec_Reader_Int [.pointer x0] w R := calls_of_denF (an := an_codec_Reader_Int) Try.func46 (by rw [e_codec_Reader_Int]; exact h)


/-- (*penstock/codec.Reader).Flag -/
def S_codec_Reader_Flag (R : Value → World → Prop) (x0 : Option Addr) (w : World) : Prop :=
 CallP P F_codec_Reader_Uint [(.pointer x0)] w fun (v0 : Value) w1 =>
 TyP (.int .u64) v0 fun (n2 : Int) =>
  ifB (decide (n2 > 1))
   (CallP P F_codec_Reader_fail [(.pointer x0), (.int .i64 7)] w1 fun (v3 : Value) w4 =>
    TupP [] v3 fun (t5 : Unit) =>
     R (.bool false) w4)
   (R (.bool (n2 == 1)) w1)
def an_codec_Reader_Flag : Ann := ⟨[], [], []⟩
theorem e_codec_Reader_Flag (R : Value → World → Prop) (x0 : Option Addr) (w : World) : denF P an_codec_Reader_Flag Try.f49 [.pointer x0] w R = S_codec_Reader_Flag R x0 w := by kernel_rfl
theorem c_codec_Reader_Flag {R : Value → World → Prop} {x0 : Option Addr} {w : World} (h : S_codec_Reader_Flag R x0 w) : CallP P F_codec_Reader_Flag [.pointer x0] w R := calls_of_denF (an := an_codec_Reader_Flag) Try.func49 (by rw [e_codec_Reader_Flag]; exact h)


/-- (*penstock/codec.Reader).Bytes -/
def S_codec_Reader_Bytes (R : Value → World → Prop) (x0 : Option Addr) (w : World) : Prop :=
 CallP P F_codec_Reader_Uint [(.pointer x0)] w fun (v0 : Value) w1 =>
 TyP (.int .u64) v0 fun (n2 : Int) =>
  JoinP (T := Unit) (fun J3 =>
   ifB (Option.isNone x0)
    (R (.slice none 0 0) w1)
    (nilCk x0 fun (a6 : Addr) =>
     RunQ (.int .i64) P (Instr.loadAt T_api_Errno (.pointer (some (a6.add 2)))) w1 fun (n7 : Int) =>
      ifB (n7 != 0)
       (R (.slice none 0 0) w1)
       (ifB (decide (n2 > 4096))
        (CallP P F_codec_Reader_fail [(.pointer x0), (.int .i64 2)] w1 fun (v8 : Value) w9 =>
         TupP [] v8 fun (t10 : Unit) =>
          R (.slice none 0 0) w9)
        (nilCk x0 fun (a11 : Addr) =>
         RunQ .sl P (Instr.loadAt T_sl_uint8 (.pointer (some (a11.add 0)))) w1.drew fun (s12 : Sl) =>
          nilCk x0 fun (a13 : Addr) =>
           RunQ (.int .i64) P (Instr.loadAt T_int (.pointer (some (a13.add 1)))) w1.drew fun (n14 : Int) =>
            ifB (decide (IntKind.i64.wrap n2 > IntKind.i64.wrap ((↑s12.len : Int) - n14)))
             (CallP P F_codec_Reader_fail [(.pointer x0), (.int .i64 6)] w1.drew fun (v15 : Value) w16 =>
              TupP [] v15 fun (t17 : Unit) =>
               R (.slice none 0 0) w16)
             (J3 (some ()) w1.drew)))))
   fun t4 w5 =>
   ∃ S18 : World → Prop, (S18 w5.drew) ∧
     nilCk x0 fun (a19 : Addr) =>
      HRun S18 .sl P (Instr.loadAt T_sl_uint8 (.pointer (some (a19.add 0)))) fun (s20 : Sl) =>
       nilCk x0 fun (a21 : Addr) =>
        HRun S18 (.int .i64) P (Instr.loadAt T_int (.pointer (some (a21.add 1)))) fun (n22 : Int) =>
         nilCk x0 fun (a23 : Addr) =>
          HRun S18 (.int .i64) P (Instr.loadAt T_int (.pointer (some (a23.add 1)))) fun (n24 : Int) =>
           HRun S18 .sl P (Instr.sliceAt T_sl_uint8 s20.v (some (.int .i64 n22)) (some (.int .i64 (IntKind.i64.wrap (n24 + IntKind.i64.wrap n2)))) none) fun (s25 : Sl) =>
            RunK .sl P (Builtin.append_ #[T_sl_uint8, T_sl_uint8] T_sl_uint8 #[(.slice none 0 0), s25.v]) w5.drew fun (s26 : Sl) w27 =>
             (S18 w27) ∧
              nilCk x0 fun (a28 : Addr) =>
               RunQ (.int .i64) P (Instr.loadAt T_int (.pointer (some (a28.add 1)))) w27 fun (n29 : Int) =>
                nilCk x0 fun (a30 : Addr) =>
                StoreP P T_int (.pointer (some (a30.add 1))) (.int .i64 (IntKind.i64.wrap (n29 + IntKind.i64.wrap n2))) w27 fun w31 =>
                R s26.v w31
def an_codec_Reader_Bytes : Ann := ⟨[(10, [])], [], []⟩
theorem e_codec_Reader_Bytes (R : Value → World → Prop) (x0 : Option Addr) (w : World) : denF P an_codec_Reader_Bytes Try.f52 [.pointer x0] w R = S_codec_Reader_Bytes R x0 w := by kernel_rfl
theorem c_codec_Reader_Bytes {R : Value → World → Prop} {x0 : Option Addr} {w : World} (h : S_codec_Reader_Bytes R x0 w) : CallP P F_codec_Reader_Bytes [.pointer x0] w R := calls_of_denF (an := an_codec_Reader_Bytes) Try.func52 (by rw [e_codec_Reader_Bytes]; exact h)


/-- (*penstock/codec.Reader).End -/
def S_codec_Reader_End (R : Value → World → Prop) (x0 : Option Addr) (w : World) : Prop :=
 JoinP (T := Unit) (fun J0 =>
 ifB (Option.isNone x0)
  (R (.int .i64 5) w)
  (nilCk x0 fun (a3 : Addr) =>
   RunQ (.int .i64) P (Instr.loadAt T_api_Errno (.pointer (some (a3.add 2)))) w.drew fun (n4 : Int) =>
    ifB (n4 == 0)
     (nilCk x0 fun (a5 : Addr) =>
      RunQ (.int .i64) P (Instr.loadAt T_int (.pointer (some (a5.add 1)))) w.drew fun (n6 : Int) =>
       nilCk x0 fun (a7 : Addr) =>
        RunQ .sl P (Instr.loadAt T_sl_uint8 (.pointer (some (a7.add 0)))) w.drew fun (s8 : Sl) =>
         ifB (decide (n6 < (↑s8.len : Int)))
          (R (.int .i64 6) w.drew)
          (J0 (some ()) w.drew))
     (J0 (some ()) w.drew)))
 fun t1 w2 =>
 nilCk x0 fun (a9 : Addr) =>
  RunQ (.int .i64) P (Instr.loadAt T_api_Errno (.pointer (some (a9.add 2)))) w2 fun (n10 : Int) =>
   R (.int .i64 n10) w2
def an_codec_Reader_End : Ann := ⟨[(5, [])], [], []⟩
theorem e_codec_Reader_End (R : Value → World → Prop) (x0 : Option Addr) (w : World) : denF P an_codec_Reader_End Try.f54 [.pointer x0] w R = S_codec_Reader_End R x0 w := by kernel_rfl
theorem c_codec_Reader_End {R : Value → World → Prop} {x0 : Option Addr} {w : World} (h : S_codec_Reader_End R x0 w) : CallP P F_codec_Reader_End [.pointer x0] w R := calls_of_denF (an := an_codec_Reader_End) Try.func54 (by rw [e_codec_Reader_End]; exact h)


/-- (*penstock/codec.Writer).Uint -/
def S_codec_Writer_Uint (R : Value → World → Prop) (x0 : Option Addr) (x1 : Int) (w : World) : Prop :=
 ifB (Option.isNone x0)
 (R (.tuple #[]) w)
 (LoopP (T := Int × Unit) (some (x1, ())) w fun next0 t1 w2 =>
  ifB (decide (t1.fst > 127))
   (nilCk x0 fun (a3 : Addr) =>
    RunQ .sl P (Instr.loadAt T_sl_uint8 (.pointer (some (a3.add 0)))) w2 fun (s4 : Sl) =>
     RunK .sl P (Instr.buildSlice T_sl_uint8 1 #[(0, (.int .u8 (IntKind.u8.wrap (↑(BitVec.ofInt 8 (IntKind.u8.wrap t1.fst) ||| BitVec.ofInt 8 128).toNat : Int))))]) w2 fun (s5 : Sl) w6 =>
      RunK .sl P (Builtin.append_ #[T_sl_uint8, T_sl_uint8] T_sl_uint8 #[s4.v, s5.v]) w6 fun (s7 : Sl) w8 =>
       nilCk x0 fun (a9 : Addr) =>
        StoreP P T_sl_uint8 (.pointer (some (a9.add 0))) s7.v w8 fun w10 =>
         next0 (some ((Int.fdiv t1.fst (2 ^ 7)), ())) w10)
   (nilCk x0 fun (a11 : Addr) =>
    RunQ .sl P (Instr.loadAt T_sl_uint8 (.pointer (some (a11.add 0)))) w2 fun (s12 : Sl) =>
     RunK .sl P (Instr.buildSlice T_sl_uint8 1 #[(0, (.int .u8 (IntKind.u8.wrap t1.fst)))]) w2 fun (s13 : Sl) w14 =>
      RunK .sl P (Builtin.append_ #[T_sl_uint8, T_sl_uint8] T_sl_uint8 #[s12.v, s13.v]) w14 fun (s15 : Sl) w16 =>
       nilCk x0 fun (a17 : Addr) =>
        StoreP P T_sl_uint8 (.pointer (some (a17.add 0))) s15.v w16 fun w18 =>
         R (.tuple #[]) w18))
def an_codec_Writer_Uint : Ann := ⟨[], [(1, [(1, (.int .u64))])], []⟩
theorem e_codec_Writer_Uint (R : Value → World → Prop) (x0 : Option Addr) (x1 : Int) (w : World) : denF P an_codec_Writer_Uint Try.f56 [.pointer x0, .int .u64 x1] w R = S_codec_Writer_Uint R x0 x1 w := by kernel_rfl
theorem c_codec_Writer_Uint {R : Value → World → Prop} {x0 : Option Addr} {x1 : Int} {w : World} (h : S_codec_Writer_Uint R x0 x1 w) : CallP P F_codec_Writer_Uint [.pointer x0, .int .u64 x1] w R := calls_of_denF (an := an_codec_Writer_Uint) Try.func56 (by rw [e_codec_Writer_Uint]; exact h)


/-- (*penstock/codec.Writer).Ints -/
def S_codec_Writer_Ints (R : Value → World → Prop) (x0 : Option Addr) (x1 : Sl) (w : World) : Prop :=
 CallP P F_codec_Writer_Uint [(.pointer x0), (.int .u64 (IntKind.u64.wrap (↑x1.len : Int)))] w fun (v0 : Value) w1 =>
 TupP [] v0 fun (t2 : Unit) =>
  LoopP (T := Int × Unit) (some (0, ())) w1 fun next3 t4 w5 =>
   ifB (decide (t4.fst < (↑x1.len : Int)))
    (RunQ .addr P (Instr.indexAt T_sl_int x1.v (.int .i64 t4.fst)) w5 fun (a6 : Addr) =>
     RunQ (.int .i64) P (Instr.loadAt T_int (.pointer (some a6))) w5 fun (n7 : Int) =>
      CallP P F_codec_Writer_Int [(.pointer x0), (.int .i64 n7)] w5 fun (v8 : Value) w9 =>
       TupP [] v8 fun (t10 : Unit) =>
        next3 (some ((IntKind.i64.wrap (t4.fst + 1)), ())) w9)
    (R (.tuple #[]) w5)
def an_codec_Writer_Ints : Ann := ⟨[], [(2, [(13, (.int .i64))])], []⟩
theorem e_codec_Writer_Ints (R : Value → World → Prop) (x0 : Option Addr) (x1 : Sl) (w : World) : denF P an_codec_Writer_Ints Try.f59 [.pointer x0, x1.v] w R = S_codec_Writer_Ints R x0 x1 w := by kernel_rfl
theorem c_codec_Writer_Ints {R : Value → World → Prop} {x0 : Option Addr} {x1 : Sl} {w : World} (h : S_codec_Writer_Ints R x0 x1 w) : CallP P F_codec_Writer_Ints [.pointer x0, x1.v] w R := calls_of_denF (an := an_codec_Writer_Ints) Try.func59 (by rw [e_codec_Writer_Ints]; exact h)


/-- (*penstock/codec.Reader).Uint -/
def S_codec_Reader_Uint (R : Value → World → Prop) (x0 : Option Addr) (w : World) : Prop :=
 JoinP (T := Unit) (fun J0 =>
 ifB (Option.isNone x0)
  (R (.int .u64 0) w)
  (nilCk x0 fun (a3 : Addr) =>
   RunQ (.int .i64) P (Instr.loadAt T_api_Errno (.pointer (some (a3.add 2)))) w fun (n4 : Int) =>
    ifB (n4 != 0)
     (R (.int .u64 0) w)
     (J0 (some ()) w)))
 fun t1 w2 =>
 nilCk x0 fun (a5 : Addr) =>
  RunQ (.int .i64) P (Instr.loadAt T_int (.pointer (some (a5.add 1)))) w2 fun (n6 : Int) =>
   LoopP (T := Int × Int × Unit) (some (0, (0, ()))) w2 fun next7 t8 w9 =>
    nilCk x0 fun (a10 : Addr) =>
     RunQ (.int .i64) P (Instr.loadAt T_int (.pointer (some (a10.add 1)))) w9.drew fun (n11 : Int) =>
      nilCk x0 fun (a12 : Addr) =>
       RunQ .sl P (Instr.loadAt T_sl_uint8 (.pointer (some (a12.add 0)))) w9.drew fun (s13 : Sl) =>
        ifB (n11 == (↑s13.len : Int))
         (nilCk x0 fun (a14 : Addr) =>
          StoreP P T_int (.pointer (some (a14.add 1))) (.int .i64 n6) w9.drew fun w15 =>
           CallP P F_codec_Reader_fail [(.pointer x0), (.int .i64 6)] w15 fun (v16 : Value) w17 =>
            TupP [] v16 fun (t18 : Unit) =>
             R (.int .u64 0) w17)
         (nilCk x0 fun (a19 : Addr) =>
          RunQ .sl P (Instr.loadAt T_sl_uint8 (.pointer (some (a19.add 0)))) w9.drew.drew fun (s20 : Sl) =>
           nilCk x0 fun (a21 : Addr) =>
            RunQ (.int .i64) P (Instr.loadAt T_int (.pointer (some (a21.add 1)))) w9.drew.drew fun (n22 : Int) =>
             RunQ .addr P (Instr.indexAt T_sl_uint8 s20.v (.int .i64 n22)) w9.drew.drew fun (a23 : Addr) =>
              RunQ (.int .u8) P (Instr.loadAt T_uint8 (.pointer (some a23))) w9.drew.drew fun (n24 : Int) =>
               nilCk x0 fun (a25 : Addr) =>
                RunQ (.int .i64) P (Instr.loadAt T_int (.pointer (some (a25.add 1)))) w9.drew.drew fun (n26 : Int) =>
                nilCk x0 fun (a27 : Addr) =>
                StoreP P T_int (.pointer (some (a27.add 1))) (.int .i64 (IntKind.i64.wrap (n26 + 1))) w9.drew.drew fun w28 =>
                JoinP (T := Unit) (fun J29 =>
                ifB (t8.snd.fst == 63)
                (ifB (decide (n24 > 1))
                (nilCk x0 fun (a32 : Addr) =>
                StoreP P T_int (.pointer (some (a32.add 1))) (.int .i64 n6) w28 fun w33 =>
                CallP P F_codec_Reader_fail [(.pointer x0), (.int .i64 7)] w33 fun (v34 : Value) w35 =>
                TupP [] v34 fun (t36 : Unit) =>
                R (.int .u64 0) w35)
                (ifB (n24 == 0)
                (ifB (decide (t8.snd.fst > 0))
                (nilCk x0 fun (a37 : Addr) =>
                StoreP P T_int (.pointer (some (a37.add 1))) (.int .i64 n6) w28 fun w38 =>
                CallP P F_codec_Reader_fail [(.pointer x0), (.int .i64 7)] w38 fun (v39 : Value) w40 =>
                TupP [] v39 fun (t41 : Unit) =>
                R (.int .u64 0) w40)
                (J29 (some ()) w28))
                (J29 (some ()) w28)))
                (ifB (n24 == 0)
                (ifB (decide (t8.snd.fst > 0))
                (nilCk x0 fun (a42 : Addr) =>
                StoreP P T_int (.pointer (some (a42.add 1))) (.int .i64 n6) w28 fun w43 =>
                CallP P F_codec_Reader_fail [(.pointer x0), (.int .i64 7)] w43 fun (v44 : Value) w45 =>
                TupP [] v44 fun (t46 : Unit) =>
                R (.int .u64 0) w45)
                (J29 (some ()) w28))
                (J29 (some ()) w28)))
                fun t30 w31 =>
                RunK (.int .u64) P (do (eqGuard .shl T_uint64 (.tmp 0) (.tmp 0) (.int .u64 (IntKind.u64.wrap (IntKind.u8.wrap (↑(BitVec.ofInt 8 n24 &&& BitVec.ofInt 8 127).toNat : Int)))) (.int .i64 t8.snd.fst)); (binOp .shl T_uint64 (.int .u64 (IntKind.u64.wrap (IntKind.u8.wrap (↑(BitVec.ofInt 8 n24 &&& BitVec.ofInt 8 127).toNat : Int)))) (.int .i64 t8.snd.fst))) w31 fun (n47 : Int) w48 =>
                ifB (decide (n24 < 128))
                (R (.int .u64 (IntKind.u64.wrap (↑(BitVec.ofInt 64 t8.fst ||| BitVec.ofInt 64 n47).toNat : Int))) w48)
                (next7 (some ((IntKind.u64.wrap (↑(BitVec.ofInt 64 t8.fst ||| BitVec.ofInt 64 n47).toNat : Int)), ((IntKind.i64.wrap (t8.snd.fst + 7)), ()))) w48))
def an_codec_Reader_Uint : Ann := ⟨[(17, []), (3, [])], [(7, [(4, (.int .u64)), (5, (.int .i64))])], []⟩
theorem e_codec_Reader_Uint (R : Value → World → Prop) (x0 : Option Addr) (w : World) : denF P an_codec_Reader_Uint Try.f60 [.pointer x0] w R = S_codec_Reader_Uint R x0 w := by kernel_rfl
theorem c_codec_Reader_Uint {R : Value → World → Prop} {x0 : Option Addr} {w : World} (h : S_codec_Reader_Uint R x0 w) : CallP P F_codec_Reader_Uint [.pointer x0] w R := calls_of_denF (an := an_codec_Reader_Uint) Try.func60 (by rw [e_codec_Reader_Uint]; exact h)


/-- (*penstock/codec.Reader).State -/
def S_codec_Reader_State (R : Value → World → Prop) (x0 : Option Addr) (w : World) : Prop :=
 ifB (Option.isNone x0)
 (R (.tuple #[(.int .i64 0), (.int .i64 0), (.int .i64 5)]) w)
 (nilCk x0 fun (a0 : Addr) =>
  RunQ (.int .i64) P (Instr.loadAt T_int (.pointer (some (a0.add 1)))) w.drew fun (n1 : Int) =>
   nilCk x0 fun (a2 : Addr) =>
    RunQ .sl P (Instr.loadAt T_sl_uint8 (.pointer (some (a2.add 0)))) w.drew fun (s3 : Sl) =>
     nilCk x0 fun (a4 : Addr) =>
      RunQ (.int .i64) P (Instr.loadAt T_int (.pointer (some (a4.add 1)))) w.drew fun (n5 : Int) =>
       nilCk x0 fun (a6 : Addr) =>
        RunQ (.int .i64) P (Instr.loadAt T_api_Errno (.pointer (some (a6.add 2)))) w.drew fun (n7 : Int) =>
         R (.tuple #[(.int .i64 n1), (.int .i64 (IntKind.i64.wrap ((↑s3.len : Int) - n5))), (.int .i64 n7)]) w.drew)
def an_codec_Reader_State : Ann := ⟨[], [], []⟩
theorem e_codec_Reader_State (R : Value → World → Prop) (x0 : Option Addr) (w : World) : denF P an_codec_Reader_State Try.f61 [.pointer x0] w R = S_codec_Reader_State R x0 w := by kernel_rfl
theorem c_codec_Reader_State {R : Value → World → Prop} {x0 : Option Addr} {w : World} (h : S_codec_Reader_State R x0 w) : CallP P F_codec_Reader_State [.pointer x0] w R := calls_of_denF (an := an_codec_Reader_State) Try.func61 (by rw [e_codec_Reader_State]; exact h)


/-- (*penstock/codec.Reader).fail -/
def S_codec_Reader_fail (R : Value → World → Prop) (x0 : Option Addr) (x1 : Int) (w : World) : Prop :=
 nilCk x0 fun (a0 : Addr) =>
 RunQ (.int .i64) P (Instr.loadAt T_api_Errno (.pointer (some (a0.add 2)))) w fun (n1 : Int) =>
  ifB (n1 == 0)
   (nilCk x0 fun (a2 : Addr) =>
    StoreP P T_api_Errno (.pointer (some (a2.add 2))) (.int .i64 x1) w fun w3 =>
     R (.tuple #[]) w3)
   (R (.tuple #[]) w)
def an_codec_Reader_fail : Ann := ⟨[], [], []⟩
theorem e_codec_Reader_fail (R : Value → World → Prop) (x0 : Option Addr) (x1 : Int) (w : World) : denF P an_codec_Reader_fail Try.f64 [.pointer x0, .int .i64 x1] w R = S_codec_Reader_fail R x0 x1 w := by kernel_rfl
theorem c_codec_Reader_fail {R : Value → World → Prop} {x0 : Option Addr} {x1 : Int} {w : World} (h : S_codec_Reader_fail R x0 x1 w) : CallP P F_codec_Reader_fail [.pointer x0, .int .i64 x1] w R := calls_of_denF (an := an_codec_Reader_fail) Try.func64 (by rw [e_codec_Reader_fail]; exact h)


/-- (*penstock/codec.Reader).Ints -/
def S_codec_Reader_Ints (R : Value → World → Prop) (x0 : Option Addr) (w : World) : Prop :=
 CallP P F_codec_Reader_Uint [(.pointer x0)] w fun (v0 : Value) w1 =>
 TyP (.int .u64) v0 fun (n2 : Int) =>
  ifB (decide (n2 > 4096))
   (CallP P F_codec_Reader_fail [(.pointer x0), (.int .i64 2)] w1 fun (v3 : Value) w4 =>
    TupP [] v3 fun (t5 : Unit) =>
     R (.slice none 0 0) w4)
   (LoopP (T := Sl × Int × Unit) (some (⟨none, 0, 0⟩, (0, ()))) w1 fun next6 t7 w8 =>
    ifB (decide (t7.snd.fst < n2))
     (CallP P F_codec_Reader_Int [(.pointer x0)] w8 fun (v9 : Value) w10 =>
      TyP (.int .i64) v9 fun (n11 : Int) =>
       nilCk x0 fun (a12 : Addr) =>
        RunQ (.int .i64) P (Instr.loadAt T_api_Errno (.pointer (some (a12.add 2)))) w10 fun (n13 : Int) =>
         ifB (n13 != 0)
          (R (.slice none 0 0) w10)
          (RunK .sl P (Instr.buildSlice T_sl_int 1 #[(0, (.int .i64 n11))]) w10 fun (s14 : Sl) w15 =>
           RunK .sl P (Builtin.append_ #[T_sl_int, T_sl_int] T_sl_int #[t7.fst.v, s14.v]) w15 fun (s16 : Sl) w17 =>
            next6 (some (s16, ((IntKind.u64.wrap (t7.snd.fst + 1)), ()))) w17))
     (R t7.fst.v w8))
def an_codec_Reader_Ints : Ann := ⟨[], [(7, [(4, .sl), (13, (.int .u64))])], []⟩
theorem e_codec_Reader_Ints (R : Value → World → Prop) (x0 : Option Addr) (w : World) : denF P an_codec_Reader_Ints Try.f67 [.pointer x0] w R = S_codec_Reader_Ints R x0 w := by kernel_rfl
theorem c_codec_Reader_Ints {R : Value → World → Prop} {x0 : Option Addr} {w : World} (h : S_codec_Reader_Ints R x0 w) : CallP P F_codec_Reader_Ints [.pointer x0] w R := calls_of_denF (an := an_codec_Reader_Ints) Try.func67 (by rw [e_codec_Reader_Ints]; exact h)

end Go.Proofs.Ytokogdigfohbeaa
