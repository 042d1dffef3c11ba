/- The functions of the program as predicates over worlds, written by a program of mine (PkPrint); each is held against the code by the kernel. -/
import Derived.Test.YtcfgbboibgjlcaaN
namespace Go.Proofs.Ytcfgbboibgjlcaa
open Go Go.Pk
/-- penstock/codec.NewWriter -/
def S_codec_NewWriter (R : Value → World → Prop) (w : World) : Prop :=
 RunK .addr P (Instr.box T_codec_Writer (.agg #[(.slice none 0 0), (.int .i64 0)])) w fun (a0 : Addr) w1 =>
 R (.pointer (some a0)) w1
def an_codec_NewWriter : Ann := ⟨[], [], []⟩
theorem e_codec_NewWriter (R : Value → World → Prop) (w : World) : denF P an_codec_NewWriter Try.f16 [] w R = S_codec_NewWriter R  w := by kernel_rfl
theorem c_codec_NewWriter {R : Value → World → Prop} {w : World} (h : S_codec_NewWriter R  w) : CallP P F_codec_NewWriter [] w R := calls_of_denF (an := an_codec_NewWriter) Try.func16 (by rw [e_codec_NewWriter]; exact h)


/-- penstock/penstocklaw03.awake -/
def S_law03_awake (R : Value → World → Prop) (w : World) : Prop :=
 CallP P F_codec_NewWriter [] w fun (v0 : Value) w1 =>
 TyP .ptr v0 fun (p2 : Option Addr) =>
  ifB (Option.isNone p2)
   (R (.bool false) w1)
   (CallP P F_codec_Writer_Uint [(.pointer p2), (.int .u64 300)] w1 fun (v3 : Value) w4 =>
    TupP [] v3 fun (t5 : Unit) =>
     CallP P F_codec_Writer_Out [(.pointer p2)] w4 fun (v6 : Value) w7 =>
      TupP [.sl, (.int .i64)] v6 fun (t8 : Sl × Int × Unit) =>
       CallP P F_codec_NewReader [t8.fst.v] w7 fun (v9 : Value) w10 =>
        TyP .ptr v9 fun (p11 : Option Addr) =>
         ifB (t8.snd.fst == 0)
          (ifB ((↑t8.fst.len : Int) == 2)
           (RunQ .addr P (Instr.indexAt T_sl_uint8 t8.fst.v (.int .i64 0)) w10 fun (a12 : Addr) =>
            RunQ (.int .u8) P (Instr.loadAt T_uint8 (.pointer (some a12))) w10 fun (n13 : Int) =>
             ifB (n13 == 172)
              (RunQ .addr P (Instr.indexAt T_sl_uint8 t8.fst.v (.int .i64 1)) w10 fun (a14 : Addr) =>
               RunQ (.int .u8) P (Instr.loadAt T_uint8 (.pointer (some a14))) w10 fun (n15 : Int) =>
                ifB (n15 == 2)
                (ifB (!Option.isNone p11)
                (CallP P F_codec_Reader_Uint [(.pointer p11)] w10 fun (v16 : Value) w17 =>
                TyP (.int .u64) v16 fun (n18 : Int) =>
                ifB (n18 == 300)
                (CallP P F_codec_Reader_End [(.pointer p11)] w17 fun (v19 : Value) w20 =>
                TyP (.int .i64) v19 fun (n21 : Int) =>
                R (.bool (n21 == 0)) w20)
                (R (.bool false) w17))
                (R (.bool false) w10))
                (R (.bool false) w10))
              (R (.bool false) w10))
           (R (.bool false) w10))
          (R (.bool false) w10))
def an_law03_awake : Ann := ⟨[], [], []⟩
theorem e_law03_awake (R : Value → World → Prop) (w : World) : denF P an_law03_awake Try.f17 [] w R = S_law03_awake R  w := by kernel_rfl
theorem c_law03_awake {R : Value → World → Prop} {w : World} (h : S_law03_awake R  w) : CallP P F_law03_awake [] w R := calls_of_denF (an := an_law03_awake) Try.func17 (by rw [e_law03_awake]; exact h)


/-- (*penstock/codec.Writer).Uint -/
def S_codec_Writer_Uint (R : Value → World → Prop) (x0 : Option Addr) (x1 : Int) (w : World) : Prop :=
 ifB (Option.isNone x0)
 (R (.tuple #[]) w)
 (LoopP (T := Int × Unit) (some (x1, ())) w fun next0 t1 w2 =>
  ifB (decide (t1.fst > 127))
   (nilCk x0 fun (a3 : Addr) =>
    RunQ .sl P (Instr.loadAt T_sl_uint8 (.pointer (some (a3.add 0)))) w2 fun (s4 : Sl) =>
     RunK .sl P (Instr.buildSlice T_sl_uint8 1 #[(0, (.int .u8 (IntKind.u8.wrap (↑(BitVec.ofInt 8 (IntKind.u8.wrap t1.fst) ||| BitVec.ofInt 8 128).toNat : Int))))]) w2 fun (s5 : Sl) w6 =>
      RunK .sl P (Builtin.append_ #[T_sl_uint8, T_sl_uint8] T_sl_uint8 #[s4.v, s5.v]) w6 fun (s7 : Sl) w8 =>
       nilCk x0 fun (a9 : Addr) =>
        StoreP P T_sl_uint8 (.pointer (some (a9.add 0))) s7.v w8 fun w10 =>
         next0 (some ((Int.fdiv t1.fst (2 ^ 7)), ())) w10)
   (nilCk x0 fun (a11 : Addr) =>
    RunQ .sl P (Instr.loadAt T_sl_uint8 (.pointer (some (a11.add 0)))) w2 fun (s12 : Sl) =>
     RunK .sl P (Instr.buildSlice T_sl_uint8 1 #[(0, (.int .u8 (IntKind.u8.wrap t1.fst)))]) w2 fun (s13 : Sl) w14 =>
      RunK .sl P (Builtin.append_ #[T_sl_uint8, T_sl_uint8] T_sl_uint8 #[s12.v, s13.v]) w14 fun (s15 : Sl) w16 =>
       nilCk x0 fun (a17 : Addr) =>
        StoreP P T_sl_uint8 (.pointer (some (a17.add 0))) s15.v w16 fun w18 =>
         R (.tuple #[]) w18))
def an_codec_Writer_Uint : Ann := ⟨[], [(1, [(1, (.int .u64))])], []⟩
theorem e_codec_Writer_Uint (R : Value → World → Prop) (x0 : Option Addr) (x1 : Int) (w : World) : denF P an_codec_Writer_Uint Try.f18 [.pointer x0, .int .u64 x1] w R = S_codec_Writer_Uint R x0 x1 w := by kernel_rfl
theorem c_codec_Writer_Uint {R : Value → World → Prop} {x0 : Option Addr} {x1 : Int} {w : World} (h : S_codec_Writer_Uint R x0 x1 w) : CallP P F_codec_Writer_Uint [.pointer x0, .int .u64 x1] w R := calls_of_denF (an := an_codec_Writer_Uint) Try.func18 (by rw [e_codec_Writer_Uint]; exact h)


/-- (*penstock/codec.Writer).Out -/
def S_codec_Writer_Out (R : Value → World → Prop) (x0 : Option Addr) (w : World) : Prop :=
 ifB (Option.isNone x0)
 (R (.tuple #[(.slice none 0 0), (.int .i64 5)]) w)
 (nilCk x0 fun (a0 : Addr) =>
  RunQ (.int .i64) P (Instr.loadAt T_api_Errno (.pointer (some (a0.add 1)))) w fun (n1 : Int) =>
   ifB (n1 != 0)
    (nilCk x0 fun (a2 : Addr) =>
     RunQ (.int .i64) P (Instr.loadAt T_api_Errno (.pointer (some (a2.add 1)))) w.drew fun (n3 : Int) =>
      R (.tuple #[(.slice none 0 0), (.int .i64 n3)]) w.drew)
    (nilCk x0 fun (a4 : Addr) =>
     RunQ .sl P (Instr.loadAt T_sl_uint8 (.pointer (some (a4.add 0)))) w fun (s5 : Sl) =>
      RunK .sl P (Builtin.append_ #[T_sl_uint8, T_sl_uint8] T_sl_uint8 #[(.slice none 0 0), s5.v]) w fun (s6 : Sl) w7 =>
       R (.tuple #[s6.v, (.int .i64 0)]) w7))
def an_codec_Writer_Out : Ann := ⟨[], [], []⟩
theorem e_codec_Writer_Out (R : Value → World → Prop) (x0 : Option Addr) (w : World) : denF P an_codec_Writer_Out Try.f19 [.pointer x0] w R = S_codec_Writer_Out R x0 w := by kernel_rfl
theorem c_codec_Writer_Out {R : Value → World → Prop} {x0 : Option Addr} {w : World} (h : S_codec_Writer_Out R x0 w) : CallP P F_codec_Writer_Out [.pointer x0] w R := calls_of_denF (an := an_codec_Writer_Out) Try.func19 (by rw [e_codec_Writer_Out]; exact h)


/-- (*penstock/codec.Writer).Int -/
def S_codec_Writer_Int (R : Value → World → Prop) (x0 : Option Addr) (x1 : Int) (w : World) : Prop :=
 CallP P F_codec_Writer_Uint [(.pointer x0), (.int .u64 (IntKind.u64.wrap (↑(BitVec.ofInt 64 (IntKind.u64.wrap (IntKind.u64.wrap x1 * 2 ^ 1)) ^^^ BitVec.ofInt 64 (IntKind.u64.wrap (Int.fdiv x1 (2 ^ 63)))).toNat : Int)))] w fun (v0 : Value) w1 =>
 TupP [] v0 fun (t2 : Unit) =>
  R (.tuple #[]) w1
def an_codec_Writer_Int : Ann := ⟨[], [], []⟩
theorem e_codec_Writer_Int (R : Value → World → Prop) (x0 : Option Addr) (x1 : Int) (w : World) : denF P an_codec_Writer_Int Try.f20 [.pointer x0, .int .i64 x1] w R = S_codec_Writer_Int R x0 x1 w := by kernel_rfl
theorem c_codec_Writer_Int {R : Value → World → Prop} {x0 : Option Addr} {x1 : Int} {w : World} (h : S_codec_Writer_Int R x0 x1 w) : CallP P F_codec_Writer_Int [.pointer x0, .int .i64 x1] w R := calls_of_denF (an := an_codec_Writer_Int) Try.func20 (by rw [e_codec_Writer_Int]; exact h)


/-- penstock/codec.NewReader -/
def S_codec_NewReader (R : Value → World → Prop) (x0 : Sl) (w : World) : Prop :=
 RunK .sl P (Builtin.append_ #[T_sl_uint8, T_sl_uint8] T_sl_uint8 #[(.slice none 0 0), x0.v]) w fun (s0 : Sl) w1 =>
 RunK .addr P (Instr.box T_codec_Reader (.agg #[s0.v, (.int .i64 0), (.int .i64 0)])) w1 fun (a2 : Addr) w3 =>
  R (.pointer (some a2)) w3
def an_codec_NewReader : Ann := ⟨[], [], []⟩
theorem e_codec_NewReader (R : Value → World → Prop) (x0 : Sl) (w : World) : denF P an_codec_NewReader Try.f21 [x0.v] w R = S_codec_NewReader R x0 w := by kernel_rfl
theorem c_codec_NewReader {R : Value → World → Prop} {x0 : Sl} {w : World} (h : S_codec_NewReader R x0 w) : CallP P F_codec_NewReader [x0.v] w R := calls_of_denF (an := an_codec_NewReader) Try.func21 (by rw [e_codec_NewReader]; exact h)


/-- (*penstock/codec.Reader).Uint -/
def S_codec_Reader_Uint (R : Value → World → Prop) (x0 : Option Addr) (w : World) : Prop :=
 JoinP (T := Unit) (fun J0 =>
 ifB (Option.isNone x0)
  (R (.int .u64 0) w)
  (nilCk x0 fun (a3 : Addr) =>
   RunQ (.int .i64) P (Instr.loadAt T_api_Errno (.pointer (some (a3.add 2)))) w fun (n4 : Int) =>
    ifB (n4 != 0)
     (R (.int .u64 0) w)
     (J0 (some ()) w)))
 fun t1 w2 =>
 nilCk x0 fun (a5 : Addr) =>
  RunQ (.int .i64) P (Instr.loadAt T_int (.pointer (some (a5.add 1)))) w2 fun (n6 : Int) =>
   LoopP (T := Int × Int × Unit) (some (0, (0, ()))) w2 fun next7 t8 w9 =>
    nilCk x0 fun (a10 : Addr) =>
     RunQ (.int .i64) P (Instr.loadAt T_int (.pointer (some (a10.add 1)))) w9.drew fun (n11 : Int) =>
      nilCk x0 fun (a12 : Addr) =>
       RunQ .sl P (Instr.loadAt T_sl_uint8 (.pointer (some (a12.add 0)))) w9.drew fun (s13 : Sl) =>
        ifB (n11 == (↑s13.len : Int))
         (nilCk x0 fun (a14 : Addr) =>
          StoreP P T_int (.pointer (some (a14.add 1))) (.int .i64 n6) w9.drew fun w15 =>
           CallP P F_codec_Reader_fail [(.pointer x0), (.int .i64 6)] w15 fun (v16 : Value) w17 =>
            TupP [] v16 fun (t18 : Unit) =>
             R (.int .u64 0) w17)
         (nilCk x0 fun (a19 : Addr) =>
          RunQ .sl P (Instr.loadAt T_sl_uint8 (.pointer (some (a19.add 0)))) w9.drew.drew fun (s20 : Sl) =>
           nilCk x0 fun (a21 : Addr) =>
            RunQ (.int .i64) P (Instr.loadAt T_int (.pointer (some (a21.add 1)))) w9.drew.drew fun (n22 : Int) =>
             RunQ .addr P (Instr.indexAt T_sl_uint8 s20.v (.int .i64 n22)) w9.drew.drew fun (a23 : Addr) =>
              RunQ (.int .u8) P (Instr.loadAt T_uint8 (.pointer (some a23))) w9.drew.drew fun (n24 : Int) =>
               nilCk x0 fun (a25 : Addr) =>
                RunQ (.int .i64) P (Instr.loadAt T_int (.pointer (some (a25.add 1)))) w9.drew.drew fun (n26 : Int) =>
                nilCk x0 fun (a27 : Addr) =>
                StoreP P T_int (.pointer (some (a27.add 1))) (.int .i64 (IntKind.i64.wrap (n26 + 1))) w9.drew.drew fun w28 =>
                JoinP (T := Unit) (fun J29 =>
                ifB (t8.snd.fst == 63)
                (ifB (decide (n24 > 1))
                (nilCk x0 fun (a32 : Addr) =>
                StoreP P T_int (.pointer (some (a32.add 1))) (.int .i64 n6) w28 fun w33 =>
                CallP P F_codec_Reader_fail [(.pointer x0), (.int .i64 7)] w33 fun (v34 : Value) w35 =>
                TupP [] v34 fun (t36 : Unit) =>
                R (.int .u64 0) w35)
                (ifB (n24 == 0)
                (ifB (decide (t8.snd.fst > 0))
                (nilCk x0 fun (a37 : Addr) =>
                StoreP P T_int (.pointer (some (a37.add 1))) (.int .i64 n6) w28 fun w38 =>
                CallP P F_codec_Reader_fail [(.pointer x0), (.int .i64 7)] w38 fun (v39 : Value) w40 =>
                TupP [] v39 fun (t41 : Unit) =>
                R (.int .u64 0) w40)
                (J29 (some ()) w28))
                (J29 (some ()) w28)))
                (ifB (n24 == 0)
                (ifB (decide (t8.snd.fst > 0))
                (nilCk x0 fun (a42 : Addr) =>
                StoreP P T_int (.pointer (some (a42.add 1))) (.int .i64 n6) w28 fun w43 =>
                CallP P F_codec_Reader_fail [(.pointer x0), (.int .i64 7)] w43 fun (v44 : Value) w45 =>
                TupP [] v44 fun (t46 : Unit) =>
                R (.int .u64 0) w45)
                (J29 (some ()) w28))
                (J29 (some ()) w28)))
                fun t30 w31 =>
                RunK (.int .u64) P (do (eqGuard .shl T_uint64 (.tmp 0) (.tmp 0) (.int .u64 (IntKind.u64.wrap (IntKind.u8.wrap (↑(BitVec.ofInt 8 n24 &&& BitVec.ofInt 8 127).toNat : Int)))) (.int .i64 t8.snd.fst)); (binOp .shl T_uint64 (.int .u64 (IntKind.u64.wrap (IntKind.u8.wrap (↑(BitVec.ofInt 8 n24 &&& BitVec.ofInt 8 127).toNat : Int)))) (.int .i64 t8.snd.fst))) w31 fun (n47 : Int) w48 =>
                ifB (decide (n24 < 128))
                (R (.int .u64 (IntKind.u64.wrap (↑(BitVec.ofInt 64 t8.fst ||| BitVec.ofInt 64 n47).toNat : Int))) w48)
                (next7 (some ((IntKind.u64.wrap (↑(BitVec.ofInt 64 t8.fst ||| BitVec.ofInt 64 n47).toNat : Int)), ((IntKind.i64.wrap (t8.snd.fst + 7)), ()))) w48))
def an_codec_Reader_Uint : Ann := ⟨[(17, []), (3, [])], [(7, [(4, (.int .u64)), (5, (.int .i64))])], []⟩
theorem e_codec_Reader_Uint (R : Value → World → Prop) (x0 : Option Addr) (w : World) : denF P an_codec_Reader_Uint Try.f22 [.pointer x0] w R = S_codec_Reader_Uint R x0 w := by kernel_rfl
theorem c_codec_Reader_Uint {R : Value → World → Prop} {x0 : Option Addr} {w : World} (h : S_codec_Reader_Uint R x0 w) : CallP P F_codec_Reader_Uint [.pointer x0] w R := calls_of_denF (an := an_codec_Reader_Uint) Try.func22 (by rw [e_codec_Reader_Uint]; exact h)


/-- (*penstock/codec.Reader).Int -/
def S_codec_Reader_Int (R : Value → World → Prop) (x0 : Option Addr) (w : World) : Prop :=
 CallP P F_codec_Reader_Uint [(.pointer x0)] w fun (v0 : Value) w1 =>
 TyP (.int .u64) v0 fun (n2 : Int) =>
  R (.int .i64 (IntKind.i64.wrap (↑(BitVec.ofInt 64 (IntKind.i64.wrap (Int.fdiv n2 (2 ^ 1))) ^^^ BitVec.ofInt 64 (IntKind.i64.wrap (0 - IntKind.i64.wrap (IntKind.u64.wrap (↑(BitVec.ofInt 64 n2 &&& BitVec.ofInt 64 1).toNat : Int))))).toNat : Int))) w1
def an_codec_Reader_Int : Ann := ⟨[], [], []⟩
theorem e_codec_Reader_Int (R : Value → World → Prop) (x0 : Option Addr) (w : World) : denF P an_codec_Reader_Int Try.f23 [.pointer x0] w R = S_codec_Reader_Int R x0 w := by kernel_rfl
theorem c_codec_Reader_Int {R : Value → World → Prop} {x0 : Option Addr} {w : World} (h : S_codec_Reader_Int R x0 w) : CallP P F_codec_Reader_Int [.pointer x0] w R := calls_of_denF (an := an_codec_Reader_Int) Try.func23 (by rw [e_codec_Reader_Int]; exact h)


/-- (*penstock/codec.Reader).End -/
def S_codec_Reader_End (R : Value → World → Prop) (x0 : Option Addr) (w : World) : Prop :=
 JoinP (T := Unit) (fun J0 =>
 ifB (Option.isNone x0)
  (R (.int .i64 5) w)
  (nilCk x0 fun (a3 : Addr) =>
   RunQ (.int .i64) P (Instr.loadAt T_api_Errno (.pointer (some (a3.add 2)))) w.drew fun (n4 : Int) =>
    ifB (n4 == 0)
     (nilCk x0 fun (a5 : Addr) =>
      RunQ (.int .i64) P (Instr.loadAt T_int (.pointer (some (a5.add 1)))) w.drew fun (n6 : Int) =>
       nilCk x0 fun (a7 : Addr) =>
        RunQ .sl P (Instr.loadAt T_sl_uint8 (.pointer (some (a7.add 0)))) w.drew fun (s8 : Sl) =>
         ifB (decide (n6 < (↑s8.len : Int)))
          (R (.int .i64 6) w.drew)
          (J0 (some ()) w.drew))
     (J0 (some ()) w.drew)))
 fun t1 w2 =>
 nilCk x0 fun (a9 : Addr) =>
  RunQ (.int .i64) P (Instr.loadAt T_api_Errno (.pointer (some (a9.add 2)))) w2 fun (n10 : Int) =>
   R (.int .i64 n10) w2
def an_codec_Reader_End : Ann := ⟨[(5, [])], [], []⟩
theorem e_codec_Reader_End (R : Value → World → Prop) (x0 : Option Addr) (w : World) : denF P an_codec_Reader_End Try.f24 [.pointer x0] w R = S_codec_Reader_End R x0 w := by kernel_rfl
theorem c_codec_Reader_End {R : Value → World → Prop} {x0 : Option Addr} {w : World} (h : S_codec_Reader_End R x0 w) : CallP P F_codec_Reader_End [.pointer x0] w R := calls_of_denF (an := an_codec_Reader_End) Try.func24 (by rw [e_codec_Reader_End]; exact h)


/-- penstock/penstocklaw03.lay -/
def S_law03_lay (R : Value → World → Prop) (x0 : Option Addr) (x1 : Sl) (x2 : Value) (w : World) : Prop :=
 RunK .addr P (Instr.box T_penstocklaw03_Op x2) w fun (a0 : Addr) w1 =>
 RunQ (.int .i64) P (Instr.loadAt T_int (.pointer (some (Go.Addr.add a0 0)))) w1 fun (n2 : Int) =>
  ifB (n2 == 0)
   (RunQ (.int .u64) P (Instr.loadAt T_uint64 (.pointer (some (Go.Addr.add a0 1)))) w1 fun (n3 : Int) =>
    CallP P F_codec_Writer_Uint [(.pointer x0), (.int .u64 n3)] w1 fun (v4 : Value) w5 =>
     TupP [] v4 fun (t6 : Unit) =>
      RunQ (.int .u64) P (Instr.loadAt T_uint64 (.pointer (some (Go.Addr.add a0 1)))) w5 fun (n7 : Int) =>
       CallP P F_ref03_Uint [(.int .u64 n7)] w5 fun (v8 : Value) w9 =>
        TyP .sl v8 fun (s10 : Sl) =>
         RunK .sl P (Builtin.append_ #[T_sl_uint8, T_sl_uint8] T_sl_uint8 #[x1.v, s10.v]) w9 fun (s11 : Sl) w12 =>
          R s11.v w12)
   (ifB (n2 == 1)
    (RunQ (.int .i64) P (Instr.loadAt T_int (.pointer (some (Go.Addr.add a0 2)))) w1 fun (n13 : Int) =>
     CallP P F_codec_Writer_Int [(.pointer x0), (.int .i64 n13)] w1 fun (v14 : Value) w15 =>
      TupP [] v14 fun (t16 : Unit) =>
       RunQ (.int .i64) P (Instr.loadAt T_int (.pointer (some (Go.Addr.add a0 2)))) w15 fun (n17 : Int) =>
        CallP P F_ref03_Int [(.int .i64 n17)] w15 fun (v18 : Value) w19 =>
         TyP .sl v18 fun (s20 : Sl) =>
          RunK .sl P (Builtin.append_ #[T_sl_uint8, T_sl_uint8] T_sl_uint8 #[x1.v, s20.v]) w19 fun (s21 : Sl) w22 =>
           R s21.v w22)
    (ifB (n2 == 2)
     (RunQ .bool P (Instr.loadAt T_bool (.pointer (some (Go.Addr.add a0 3)))) w1 fun (b23 : Bool) =>
      CallP P F_codec_Writer_Flag [(.pointer x0), (.bool b23)] w1 fun (v24 : Value) w25 =>
       TupP [] v24 fun (t26 : Unit) =>
        RunQ .bool P (Instr.loadAt T_bool (.pointer (some (Go.Addr.add a0 3)))) w25 fun (b27 : Bool) =>
         CallP P F_ref03_Flag [(.bool b27)] w25 fun (v28 : Value) w29 =>
          TyP .sl v28 fun (s30 : Sl) =>
           RunK .sl P (Builtin.append_ #[T_sl_uint8, T_sl_uint8] T_sl_uint8 #[x1.v, s30.v]) w29 fun (s31 : Sl) w32 =>
            R s31.v w32)
     (ifB (n2 == 3)
      (RunQ (.int .u64) P (Instr.loadAt T_uint64 (.pointer (some (Go.Addr.add a0 1)))) w1 fun (n33 : Int) =>
       CallP P F_codec_Writer_Fixed [(.pointer x0), (.int .u32 (IntKind.u32.wrap n33))] w1 fun (v34 : Value) w35 =>
        TupP [] v34 fun (t36 : Unit) =>
         RunQ (.int .u64) P (Instr.loadAt T_uint64 (.pointer (some (Go.Addr.add a0 1)))) w35 fun (n37 : Int) =>
          CallP P F_ref03_Fixed [(.int .u32 (IntKind.u32.wrap n37))] w35 fun (v38 : Value) w39 =>
           TyP .sl v38 fun (s40 : Sl) =>
            RunK .sl P (Builtin.append_ #[T_sl_uint8, T_sl_uint8] T_sl_uint8 #[x1.v, s40.v]) w39 fun (s41 : Sl) w42 =>
             R s41.v w42)
      (ifB (n2 == 4)
       (RunQ .sl P (Instr.loadAt T_sl_uint8 (.pointer (some (Go.Addr.add a0 4)))) w1 fun (s43 : Sl) =>
        CallP P F_codec_Writer_Bytes [(.pointer x0), s43.v] w1 fun (v44 : Value) w45 =>
         TupP [] v44 fun (t46 : Unit) =>
          RunQ .sl P (Instr.loadAt T_sl_uint8 (.pointer (some (Go.Addr.add a0 4)))) w45 fun (s47 : Sl) =>
           CallP P F_ref03_Bytes [s47.v] w45 fun (v48 : Value) w49 =>
            TyP .sl v48 fun (s50 : Sl) =>
             RunK .sl P (Builtin.append_ #[T_sl_uint8, T_sl_uint8] T_sl_uint8 #[x1.v, s50.v]) w49 fun (s51 : Sl) w52 =>
              R s51.v w52)
       (RunQ .sl P (Instr.loadAt T_sl_int (.pointer (some (Go.Addr.add a0 5)))) w1 fun (s53 : Sl) =>
        CallP P F_codec_Writer_Ints [(.pointer x0), s53.v] w1 fun (v54 : Value) w55 =>
         TupP [] v54 fun (t56 : Unit) =>
          RunQ .sl P (Instr.loadAt T_sl_int (.pointer (some (Go.Addr.add a0 5)))) w55 fun (s57 : Sl) =>
           CallP P F_ref03_Ints [s57.v] w55 fun (v58 : Value) w59 =>
            TyP .sl v58 fun (s60 : Sl) =>
             RunK .sl P (Builtin.append_ #[T_sl_uint8, T_sl_uint8] T_sl_uint8 #[x1.v, s60.v]) w59 fun (s61 : Sl) w62 =>
              R s61.v w62)))))
def an_law03_lay : Ann := ⟨[], [], []⟩
theorem e_law03_lay (R : Value → World → Prop) (x0 : Option Addr) (x1 : Sl) (x2 : Value) (w : World) : denF P an_law03_lay Try.f25 [.pointer x0, x1.v, x2] w R = S_law03_lay R x0 x1 x2 w := by kernel_rfl
theorem c_law03_lay {R : Value → World → Prop} {x0 : Option Addr} {x1 : Sl} {x2 : Value} {w : World} (h : S_law03_lay R x0 x1 x2 w) : CallP P F_law03_lay [.pointer x0, x1.v, x2] w R := calls_of_denF (an := an_law03_lay) Try.func25 (by rw [e_law03_lay]; exact h)


/-- penstock/penstockref03.Same -/
def S_ref03_Same (R : Value → World → Prop) (x0 : Sl) (x1 : Sl) (w : World) : Prop :=
 ifB ((↑x0.len : Int) != (↑x1.len : Int))
 (R (.bool false) w)
 (LoopP (T := Int × Unit) (some (0, ())) w fun next0 t1 w2 =>
  ifB (decide (t1.fst < (↑x0.len : Int)))
   (RunQ .addr P (Instr.indexAt T_sl_uint8 x0.v (.int .i64 t1.fst)) w2.drew fun (a3 : Addr) =>
    RunQ (.int .u8) P (Instr.loadAt T_uint8 (.pointer (some a3))) w2.drew fun (n4 : Int) =>
     RunQ .addr P (Instr.indexAt T_sl_uint8 x1.v (.int .i64 t1.fst)) w2.drew fun (a5 : Addr) =>
      RunQ (.int .u8) P (Instr.loadAt T_uint8 (.pointer (some a5))) w2.drew fun (n6 : Int) =>
       ifB (n4 != n6)
        (R (.bool false) w2.drew)
        (next0 (some ((IntKind.i64.wrap (t1.fst + 1)), ())) w2.drew))
   (R (.bool true) w2))
def an_ref03_Same : Ann := ⟨[], [(4, [(5, (.int .i64))])], []⟩
theorem e_ref03_Same (R : Value → World → Prop) (x0 : Sl) (x1 : Sl) (w : World) : denF P an_ref03_Same Try.f26 [x0.v, x1.v] w R = S_ref03_Same R x0 x1 w := by kernel_rfl
theorem c_ref03_Same {R : Value → World → Prop} {x0 : Sl} {x1 : Sl} {w : World} (h : S_ref03_Same R x0 x1 w) : CallP P F_ref03_Same [x0.v, x1.v] w R := calls_of_denF (an := an_ref03_Same) Try.func26 (by rw [e_ref03_Same]; exact h)


/-- (*penstock/codec.Writer).Bytes -/
def S_codec_Writer_Bytes (R : Value → World → Prop) (x0 : Option Addr) (x1 : Sl) (w : World) : Prop :=
 ifB (Option.isNone x0)
 (R (.tuple #[]) w)
 (JoinP (T := Unit) (fun J0 =>
  ifB (decide ((↑x1.len : Int) > 4096))
   (nilCk x0 fun (a3 : Addr) =>
    RunQ (.int .i64) P (Instr.loadAt T_api_Errno (.pointer (some (a3.add 1)))) w fun (n4 : Int) =>
     ifB (n4 == 0)
      (nilCk x0 fun (a5 : Addr) =>
       StoreP P T_api_Errno (.pointer (some (a5.add 1))) (.int .i64 2) w fun w6 =>
        J0 (some ()) w6)
      (J0 (some ()) w))
   (J0 (some ()) w))
  fun t1 w2 =>
  CallP P F_codec_Writer_Uint [(.pointer x0), (.int .u64 (IntKind.u64.wrap (↑x1.len : Int)))] w2 fun (v7 : Value) w8 =>
   TupP [] v7 fun (t9 : Unit) =>
    nilCk x0 fun (a10 : Addr) =>
     RunQ .sl P (Instr.loadAt T_sl_uint8 (.pointer (some (a10.add 0)))) w8 fun (s11 : Sl) =>
      RunK .sl P (Builtin.append_ #[T_sl_uint8, T_sl_uint8] T_sl_uint8 #[s11.v, x1.v]) w8 fun (s12 : Sl) w13 =>
       nilCk x0 fun (a14 : Addr) =>
        StoreP P T_sl_uint8 (.pointer (some (a14.add 0))) s12.v w13 fun w15 =>
         R (.tuple #[]) w15)
def an_codec_Writer_Bytes : Ann := ⟨[(3, [])], [], []⟩
theorem e_codec_Writer_Bytes (R : Value → World → Prop) (x0 : Option Addr) (x1 : Sl) (w : World) : denF P an_codec_Writer_Bytes Try.f27 [.pointer x0, x1.v] w R = S_codec_Writer_Bytes R x0 x1 w := by kernel_rfl
theorem c_codec_Writer_Bytes {R : Value → World → Prop} {x0 : Option Addr} {x1 : Sl} {w : World} (h : S_codec_Writer_Bytes R x0 x1 w) : CallP P F_codec_Writer_Bytes [.pointer x0, x1.v] w R := calls_of_denF (an := an_codec_Writer_Bytes) Try.func27 (by rw [e_codec_Writer_Bytes]; exact h)


/-- (*penstock/codec.Writer).Ints -/
def S_codec_Writer_Ints (R : Value → World → Prop) (x0 : Option Addr) (x1 : Sl) (w : World) : Prop :=
 CallP P F_codec_Writer_Uint [(.pointer x0), (.int .u64 (IntKind.u64.wrap (↑x1.len : Int)))] w fun (v0 : Value) w1 =>
 TupP [] v0 fun (t2 : Unit) =>
  LoopP (T := Int × Unit) (some (0, ())) w1 fun next3 t4 w5 =>
   ifB (decide (t4.fst < (↑x1.len : Int)))
    (RunQ .addr P (Instr.indexAt T_sl_int x1.v (.int .i64 t4.fst)) w5 fun (a6 : Addr) =>
     RunQ (.int .i64) P (Instr.loadAt T_int (.pointer (some a6))) w5 fun (n7 : Int) =>
      CallP P F_codec_Writer_Int [(.pointer x0), (.int .i64 n7)] w5 fun (v8 : Value) w9 =>
       TupP [] v8 fun (t10 : Unit) =>
        next3 (some ((IntKind.i64.wrap (t4.fst + 1)), ())) w9)
    (R (.tuple #[]) w5)
def an_codec_Writer_Ints : Ann := ⟨[], [(2, [(13, (.int .i64))])], []⟩
theorem e_codec_Writer_Ints (R : Value → World → Prop) (x0 : Option Addr) (x1 : Sl) (w : World) : denF P an_codec_Writer_Ints Try.f28 [.pointer x0, x1.v] w R = S_codec_Writer_Ints R x0 x1 w := by kernel_rfl
theorem c_codec_Writer_Ints {R : Value → World → Prop} {x0 : Option Addr} {x1 : Sl} {w : World} (h : S_codec_Writer_Ints R x0 x1 w) : CallP P F_codec_Writer_Ints [.pointer x0, x1.v] w R := calls_of_denF (an := an_codec_Writer_Ints) Try.func28 (by rw [e_codec_Writer_Ints]; exact h)


/-- penstock/penstockref03.SameInts -/
def S_ref03_SameInts (R : Value → World → Prop) (x0 : Sl) (x1 : Sl) (w : World) : Prop :=
 ifB ((↑x0.len : Int) != (↑x1.len : Int))
 (R (.bool false) w)
 (LoopP (T := Int × Unit) (some (0, ())) w fun next0 t1 w2 =>
  ifB (decide (t1.fst < (↑x0.len : Int)))
   (RunQ .addr P (Instr.indexAt T_sl_int x0.v (.int .i64 t1.fst)) w2.drew fun (a3 : Addr) =>
    RunQ (.int .i64) P (Instr.loadAt T_int (.pointer (some a3))) w2.drew fun (n4 : Int) =>
     RunQ .addr P (Instr.indexAt T_sl_int x1.v (.int .i64 t1.fst)) w2.drew fun (a5 : Addr) =>
      RunQ (.int .i64) P (Instr.loadAt T_int (.pointer (some a5))) w2.drew fun (n6 : Int) =>
       ifB (n4 != n6)
        (R (.bool false) w2.drew)
        (next0 (some ((IntKind.i64.wrap (t1.fst + 1)), ())) w2.drew))
   (R (.bool true) w2))
def an_ref03_SameInts : Ann := ⟨[], [(4, [(5, (.int .i64))])], []⟩
theorem e_ref03_SameInts (R : Value → World → Prop) (x0 : Sl) (x1 : Sl) (w : World) : denF P an_ref03_SameInts Try.f29 [x0.v, x1.v] w R = S_ref03_SameInts R x0 x1 w := by kernel_rfl
theorem c_ref03_SameInts {R : Value → World → Prop} {x0 : Sl} {x1 : Sl} {w : World} (h : S_ref03_SameInts R x0 x1 w) : CallP P F_ref03_SameInts [x0.v, x1.v] w R := calls_of_denF (an := an_ref03_SameInts) Try.func29 (by rw [e_ref03_SameInts]; exact h)


/-- (*penstock/codec.Reader).Bytes -/
def S_codec_Reader_Bytes (R : Value → World → Prop) (x0 : Option Addr) (w : World) : Prop :=
 CallP P F_codec_Reader_Uint [(.pointer x0)] w fun (v0 : Value) w1 =>
 TyP (.int .u64) v0 fun (n2 : Int) =>
  JoinP (T := Unit) (fun J3 =>
   ifB (Option.isNone x0)
    (R (.slice none 0 0) w1)
    (nilCk x0 fun (a6 : Addr) =>
     RunQ (.int .i64) P (Instr.loadAt T_api_Errno (.pointer (some (a6.add 2)))) w1 fun (n7 : Int) =>
      ifB (n7 != 0)
       (R (.slice none 0 0) w1)
       (ifB (decide (n2 > 4096))
        (CallP P F_codec_Reader_fail [(.pointer x0), (.int .i64 2)] w1 fun (v8 : Value) w9 =>
         TupP [] v8 fun (t10 : Unit) =>
          R (.slice none 0 0) w9)
        (nilCk x0 fun (a11 : Addr) =>
         RunQ .sl P (Instr.loadAt T_sl_uint8 (.pointer (some (a11.add 0)))) w1.drew fun (s12 : Sl) =>
          nilCk x0 fun (a13 : Addr) =>
           RunQ (.int .i64) P (Instr.loadAt T_int (.pointer (some (a13.add 1)))) w1.drew fun (n14 : Int) =>
            ifB (decide (IntKind.i64.wrap n2 > IntKind.i64.wrap ((↑s12.len : Int) - n14)))
             (CallP P F_codec_Reader_fail [(.pointer x0), (.int .i64 6)] w1.drew fun (v15 : Value) w16 =>
              TupP [] v15 fun (t17 : Unit) =>
               R (.slice none 0 0) w16)
             (J3 (some ()) w1.drew)))))
   fun t4 w5 =>
   ∃ S18 : World → Prop, (S18 w5.drew) ∧
     nilCk x0 fun (a19 : Addr) =>
      HRun S18 .sl P (Instr.loadAt T_sl_uint8 (.pointer (some (a19.add 0)))) fun (s20 : Sl) =>
       nilCk x0 fun (a21 : Addr) =>
        HRun S18 (.int .i64) P (Instr.loadAt T_int (.pointer (some (a21.add 1)))) fun (n22 : Int) =>
         nilCk x0 fun (a23 : Addr) =>
          HRun S18 (.int .i64) P (Instr.loadAt T_int (.pointer (some (a23.add 1)))) fun (n24 : Int) =>
           HRun S18 .sl P (Instr.sliceAt T_sl_uint8 s20.v (some (.int .i64 n22)) (some (.int .i64 (IntKind.i64.wrap (n24 + IntKind.i64.wrap n2)))) none) fun (s25 : Sl) =>
            RunK .sl P (Builtin.append_ #[T_sl_uint8, T_sl_uint8] T_sl_uint8 #[(.slice none 0 0), s25.v]) w5.drew fun (s26 : Sl) w27 =>
             (S18 w27) ∧
              nilCk x0 fun (a28 : Addr) =>
               RunQ (.int .i64) P (Instr.loadAt T_int (.pointer (some (a28.add 1)))) w27 fun (n29 : Int) =>
                nilCk x0 fun (a30 : Addr) =>
                StoreP P T_int (.pointer (some (a30.add 1))) (.int .i64 (IntKind.i64.wrap (n29 + IntKind.i64.wrap n2))) w27 fun w31 =>
                R s26.v w31
def an_codec_Reader_Bytes : Ann := ⟨[(10, [])], [], []⟩
theorem e_codec_Reader_Bytes (R : Value → World → Prop) (x0 : Option Addr) (w : World) : denF P an_codec_Reader_Bytes Try.f30 [.pointer x0] w R = S_codec_Reader_Bytes R x0 w := by kernel_rfl
theorem c_codec_Reader_Bytes {R : Value → World → Prop} {x0 : Option Addr} {w : World} (h : S_codec_Reader_Bytes R x0 w) : CallP P F_codec_Reader_Bytes [.pointer x0] w R := calls_of_denF (an := an_codec_Reader_Bytes) Try.func30 (by rw [e_codec_Reader_Bytes]; exact h)


/-- (*penstock/codec.Reader).Ints -/
def S_codec_Reader_Ints (R : Value → World → Prop) (x0 : Option Addr) (w : World) : Prop :=
 CallP P F_codec_Reader_Uint [(.pointer x0)] w fun (v0 : Value) w1 =>
 TyP (.int .u64) v0 fun (n2 : Int) =>
  ifB (decide (n2 > 4096))
   (CallP P F_codec_Reader_fail [(.pointer x0), (.int .i64 2)] w1 fun (v3 : Value) w4 =>
    TupP [] v3 fun (t5 : Unit) =>
     R (.slice none 0 0) w4)
   (LoopP (T := Sl × Int × Unit) (some (⟨none, 0, 0⟩, (0, ()))) w1 fun next6 t7 w8 =>
    ifB (decide (t7.snd.fst < n2))
     (CallP P F_codec_Reader_Int [(.pointer x0)] w8 fun (v9 : Value) w10 =>
      TyP (.int .i64) v9 fun (n11 : Int) =>
       nilCk x0 fun (a12 : Addr) =>
        RunQ (.int .i64) P (Instr.loadAt T_api_Errno (.pointer (some (a12.add 2)))) w10 fun (n13 : Int) =>
         ifB (n13 != 0)
          (R (.slice none 0 0) w10)
          (RunK .sl P (Instr.buildSlice T_sl_int 1 #[(0, (.int .i64 n11))]) w10 fun (s14 : Sl) w15 =>
           RunK .sl P (Builtin.append_ #[T_sl_int, T_sl_int] T_sl_int #[t7.fst.v, s14.v]) w15 fun (s16 : Sl) w17 =>
            next6 (some (s16, ((IntKind.u64.wrap (t7.snd.fst + 1)), ()))) w17))
     (R t7.fst.v w8))
def an_codec_Reader_Ints : Ann := ⟨[], [(7, [(4, .sl), (13, (.int .u64))])], []⟩
theorem e_codec_Reader_Ints (R : Value → World → Prop) (x0 : Option Addr) (w : World) : denF P an_codec_Reader_Ints Try.f31 [.pointer x0] w R = S_codec_Reader_Ints R x0 w := by kernel_rfl
theorem c_codec_Reader_Ints {R : Value → World → Prop} {x0 : Option Addr} {w : World} (h : S_codec_Reader_Ints R x0 w) : CallP P F_codec_Reader_Ints [.pointer x0] w R := calls_of_denF (an := an_codec_Reader_Ints) Try.func31 (by rw [e_codec_Reader_Ints]; exact h)


/-- penstock/penstocklaw03.take -/
def S_law03_take (R : Value → World → Prop) (x0 : Option Addr) (x1 : Option Addr) (x2 : Int) (w : World) : Prop :=
 ifB (x2 == 0)
 (CallP P F_codec_Reader_Uint [(.pointer x0)] w fun (v0 : Value) w1 =>
  TyP (.int .u64) v0 fun (n2 : Int) =>
   CallP P F_ref03_Reader_Uint [(.pointer x1)] w1 fun (v3 : Value) w4 =>
    TyP (.int .u64) v3 fun (n5 : Int) =>
     R (.bool (n2 == n5)) w4)
 (ifB (x2 == 1)
  (CallP P F_codec_Reader_Int [(.pointer x0)] w fun (v6 : Value) w7 =>
   TyP (.int .i64) v6 fun (n8 : Int) =>
    CallP P F_ref03_Reader_Int [(.pointer x1)] w7 fun (v9 : Value) w10 =>
     TyP (.int .i64) v9 fun (n11 : Int) =>
      R (.bool (n8 == n11)) w10)
  (ifB (x2 == 2)
   (CallP P F_codec_Reader_Flag [(.pointer x0)] w fun (v12 : Value) w13 =>
    TyP .bool v12 fun (b14 : Bool) =>
     CallP P F_ref03_Reader_Flag [(.pointer x1)] w13 fun (v15 : Value) w16 =>
      TyP .bool v15 fun (b17 : Bool) =>
       R (.bool (b14 == b17)) w16)
   (ifB (x2 == 3)
    (CallP P F_codec_Reader_Fixed [(.pointer x0)] w fun (v18 : Value) w19 =>
     TyP (.int .u32) v18 fun (n20 : Int) =>
      CallP P F_ref03_Reader_Fixed [(.pointer x1)] w19 fun (v21 : Value) w22 =>
       TyP (.int .u32) v21 fun (n23 : Int) =>
        R (.bool (n20 == n23)) w22)
    (ifB (x2 == 4)
     (CallP P F_codec_Reader_Bytes [(.pointer x0)] w fun (v24 : Value) w25 =>
      TyP .sl v24 fun (s26 : Sl) =>
       CallP P F_ref03_Reader_Bytes [(.pointer x1)] w25 fun (v27 : Value) w28 =>
        TyP .sl v27 fun (s29 : Sl) =>
         CallP P F_ref03_Same [s26.v, s29.v] w28 fun (v30 : Value) w31 =>
          TyP .bool v30 fun (b32 : Bool) =>
           R (.bool b32) w31)
     (CallP P F_codec_Reader_Ints [(.pointer x0)] w fun (v33 : Value) w34 =>
      TyP .sl v33 fun (s35 : Sl) =>
       CallP P F_ref03_Reader_Ints [(.pointer x1)] w34 fun (v36 : Value) w37 =>
        TyP .sl v36 fun (s38 : Sl) =>
         CallP P F_ref03_SameInts [s35.v, s38.v] w37 fun (v39 : Value) w40 =>
          TyP .bool v39 fun (b41 : Bool) =>
           R (.bool b41) w40)))))
def an_law03_take : Ann := ⟨[], [], []⟩
theorem e_law03_take (R : Value → World → Prop) (x0 : Option Addr) (x1 : Option Addr) (x2 : Int) (w : World) : denF P an_law03_take Try.f32 [.pointer x0, .pointer x1, .int .i64 x2] w R = S_law03_take R x0 x1 x2 w := by kernel_rfl
theorem c_law03_take {R : Value → World → Prop} {x0 : Option Addr} {x1 : Option Addr} {x2 : Int} {w : World} (h : S_law03_take R x0 x1 x2 w) : CallP P F_law03_take [.pointer x0, .pointer x1, .int .i64 x2] w R := calls_of_denF (an := an_law03_take) Try.func32 (by rw [e_law03_take]; exact h)


/-- (*penstock/codec.Reader).State -/
def S_codec_Reader_State (R : Value → World → Prop) (x0 : Option Addr) (w : World) : Prop :=
 ifB (Option.isNone x0)
 (R (.tuple #[(.int .i64 0), (.int .i64 0), (.int .i64 5)]) w)
 (nilCk x0 fun (a0 : Addr) =>
  RunQ (.int .i64) P (Instr.loadAt T_int (.pointer (some (a0.add 1)))) w.drew fun (n1 : Int) =>
   nilCk x0 fun (a2 : Addr) =>
    RunQ .sl P (Instr.loadAt T_sl_uint8 (.pointer (some (a2.add 0)))) w.drew fun (s3 : Sl) =>
     nilCk x0 fun (a4 : Addr) =>
      RunQ (.int .i64) P (Instr.loadAt T_int (.pointer (some (a4.add 1)))) w.drew fun (n5 : Int) =>
       nilCk x0 fun (a6 : Addr) =>
        RunQ (.int .i64) P (Instr.loadAt T_api_Errno (.pointer (some (a6.add 2)))) w.drew fun (n7 : Int) =>
         R (.tuple #[(.int .i64 n1), (.int .i64 (IntKind.i64.wrap ((↑s3.len : Int) - n5))), (.int .i64 n7)]) w.drew)
def an_codec_Reader_State : Ann := ⟨[], [], []⟩
theorem e_codec_Reader_State (R : Value → World → Prop) (x0 : Option Addr) (w : World) : denF P an_codec_Reader_State Try.f33 [.pointer x0] w R = S_codec_Reader_State R x0 w := by kernel_rfl
theorem c_codec_Reader_State {R : Value → World → Prop} {x0 : Option Addr} {w : World} (h : S_codec_Reader_State R x0 w) : CallP P F_codec_Reader_State [.pointer x0] w R := calls_of_denF (an := an_codec_Reader_State) Try.func33 (by rw [e_codec_Reader_State]; exact h)


/-- (*penstock/penstockref03.Reader).End -/
def S_ref03_Reader_End (R : Value → World → Prop) (x0 : Option Addr) (w : World) : Prop :=
 JoinP (T := Unit) (fun J0 =>
 nilCk x0 fun (a3 : Addr) =>
  RunQ (.int .i64) P (Instr.loadAt T_int (.pointer (some (a3.add 2)))) w.drew fun (n4 : Int) =>
   ifB (n4 == 0)
    (nilCk x0 fun (a5 : Addr) =>
     RunQ (.int .i64) P (Instr.loadAt T_int (.pointer (some (a5.add 1)))) w.drew fun (n6 : Int) =>
      nilCk x0 fun (a7 : Addr) =>
       RunQ .sl P (Instr.loadAt T_sl_uint8 (.pointer (some (a7.add 0)))) w.drew fun (s8 : Sl) =>
        ifB (decide (n6 < (↑s8.len : Int)))
         (R (.int .i64 6) w.drew)
         (J0 (some ()) w.drew))
    (J0 (some ()) w.drew))
 fun t1 w2 =>
 nilCk x0 fun (a9 : Addr) =>
  RunQ (.int .i64) P (Instr.loadAt T_int (.pointer (some (a9.add 2)))) w2 fun (n10 : Int) =>
   R (.int .i64 n10) w2
def an_ref03_Reader_End : Ann := ⟨[(3, [])], [], []⟩
theorem e_ref03_Reader_End (R : Value → World → Prop) (x0 : Option Addr) (w : World) : denF P an_ref03_Reader_End Try.f34 [.pointer x0] w R = S_ref03_Reader_End R x0 w := by kernel_rfl
theorem c_ref03_Reader_End {R : Value → World → Prop} {x0 : Option Addr} {w : World} (h : S_ref03_Reader_End R x0 w) : CallP P F_ref03_Reader_End [.pointer x0] w R := calls_of_denF (an := an_ref03_Reader_End) Try.func34 (by rw [e_ref03_Reader_End]; exact h)


/-- (*penstock/codec.Reader).Flag -/
def S_codec_Reader_Flag (R : Value → World → Prop) (x0 : Option Addr) (w : World) : Prop :=
 CallP P F_codec_Reader_Uint [(.pointer x0)] w fun (v0 : Value) w1 =>
 TyP (.int .u64) v0 fun (n2 : Int) =>
  ifB (decide (n2 > 1))
   (CallP P F_codec_Reader_fail [(.pointer x0), (.int .i64 7)] w1 fun (v3 : Value) w4 =>
    TupP [] v3 fun (t5 : Unit) =>
     R (.bool false) w4)
   (R (.bool (n2 == 1)) w1)
def an_codec_Reader_Flag : Ann := ⟨[], [], []⟩
theorem e_codec_Reader_Flag (R : Value → World → Prop) (x0 : Option Addr) (w : World) : denF P an_codec_Reader_Flag Try.f35 [.pointer x0] w R = S_codec_Reader_Flag R x0 w := by kernel_rfl
theorem c_codec_Reader_Flag {R : Value → World → Prop} {x0 : Option Addr} {w : World} (h : S_codec_Reader_Flag R x0 w) : CallP P F_codec_Reader_Flag [.pointer x0] w R := calls_of_denF (an := an_codec_Reader_Flag) Try.func35 (by rw [e_codec_Reader_Flag]; exact h)


/-- (*penstock/codec.Reader).Fixed -/
def S_codec_Reader_Fixed (R : Value → World → Prop) (x0 : Option Addr) (w : World) : Prop :=
 JoinP (T := Unit) (fun J0 =>
 ifB (Option.isNone x0)
  (R (.int .u32 0) w)
  (nilCk x0 fun (a3 : Addr) =>
   RunQ (.int .i64) P (Instr.loadAt T_api_Errno (.pointer (some (a3.add 2)))) w fun (n4 : Int) =>
    ifB (n4 != 0)
     (R (.int .u32 0) w)
     (J0 (some ()) w)))
 fun t1 w2 =>
 nilCk x0 fun (a5 : Addr) =>
  RunQ .sl P (Instr.loadAt T_sl_uint8 (.pointer (some (a5.add 0)))) w2.drew fun (s6 : Sl) =>
   nilCk x0 fun (a7 : Addr) =>
    RunQ (.int .i64) P (Instr.loadAt T_int (.pointer (some (a7.add 1)))) w2.drew fun (n8 : Int) =>
     ifB (decide (IntKind.i64.wrap ((↑s6.len : Int) - n8) < 4))
      (CallP P F_codec_Reader_fail [(.pointer x0), (.int .i64 6)] w2.drew fun (v9 : Value) w10 =>
       TupP [] v9 fun (t11 : Unit) =>
        R (.int .u32 0) w10)
      (nilCk x0 fun (a12 : Addr) =>
       RunQ .sl P (Instr.loadAt T_sl_uint8 (.pointer (some (a12.add 0)))) w2.drew.drew fun (s13 : Sl) =>
        nilCk x0 fun (a14 : Addr) =>
         RunQ (.int .i64) P (Instr.loadAt T_int (.pointer (some (a14.add 1)))) w2.drew.drew fun (n15 : Int) =>
          RunQ .sl P (Instr.sliceAt T_sl_uint8 s13.v (some (.int .i64 n15)) none none) w2.drew.drew fun (s16 : Sl) =>
           nilCk x0 fun (a17 : Addr) =>
            RunQ (.int .i64) P (Instr.loadAt T_int (.pointer (some (a17.add 1)))) w2.drew.drew fun (n18 : Int) =>
             nilCk x0 fun (a19 : Addr) =>
              StoreP P T_int (.pointer (some (a19.add 1))) (.int .i64 (IntKind.i64.wrap (n18 + 4))) w2.drew.drew fun w20 =>
               RunQ .addr P (Instr.indexAt T_sl_uint8 s16.v (.int .i64 0)) w20.drew fun (a21 : Addr) =>
                RunQ (.int .u8) P (Instr.loadAt T_uint8 (.pointer (some a21))) w20.drew fun (n22 : Int) =>
                RunQ .addr P (Instr.indexAt T_sl_uint8 s16.v (.int .i64 1)) w20.drew fun (a23 : Addr) =>
                RunQ (.int .u8) P (Instr.loadAt T_uint8 (.pointer (some a23))) w20.drew fun (n24 : Int) =>
                RunQ .addr P (Instr.indexAt T_sl_uint8 s16.v (.int .i64 2)) w20.drew fun (a25 : Addr) =>
                RunQ (.int .u8) P (Instr.loadAt T_uint8 (.pointer (some a25))) w20.drew fun (n26 : Int) =>
                RunQ .addr P (Instr.indexAt T_sl_uint8 s16.v (.int .i64 3)) w20.drew fun (a27 : Addr) =>
                RunQ (.int .u8) P (Instr.loadAt T_uint8 (.pointer (some a27))) w20.drew fun (n28 : Int) =>
                R (.int .u32 (IntKind.u32.wrap (↑(BitVec.ofInt 32 (IntKind.u32.wrap (↑(BitVec.ofInt 32 (IntKind.u32.wrap (↑(BitVec.ofInt 32 (IntKind.u32.wrap n22) ||| BitVec.ofInt 32 (IntKind.u32.wrap (IntKind.u32.wrap n24 * 2 ^ 8))).toNat : Int)) ||| BitVec.ofInt 32 (IntKind.u32.wrap (IntKind.u32.wrap n26 * 2 ^ 16))).toNat : Int)) ||| BitVec.ofInt 32 (IntKind.u32.wrap (IntKind.u32.wrap n28 * 2 ^ 24))).toNat : Int))) w20.drew)
def an_codec_Reader_Fixed : Ann := ⟨[(3, [])], [], []⟩
theorem e_codec_Reader_Fixed (R : Value → World → Prop) (x0 : Option Addr) (w : World) : denF P an_codec_Reader_Fixed Try.f36 [.pointer x0] w R = S_codec_Reader_Fixed R x0 w := by kernel_rfl
theorem c_codec_Reader_Fixed {R : Value → World → Prop} {x0 : Option Addr} {w : World} (h : S_codec_Reader_Fixed R x0 w) : CallP P F_codec_Reader_Fixed [.pointer x0] w R := calls_of_denF (an := an_codec_Reader_Fixed) Try.func36 (by rw [e_codec_Reader_Fixed]; exact h)


/-- (*penstock/codec.Reader).fail -/
def S_codec_Reader_fail (R : Value → World → Prop) (x0 : Option Addr) (x1 : Int) (w : World) : Prop :=
 nilCk x0 fun (a0 : Addr) =>
 RunQ (.int .i64) P (Instr.loadAt T_api_Errno (.pointer (some (a0.add 2)))) w fun (n1 : Int) =>
  ifB (n1 == 0)
   (nilCk x0 fun (a2 : Addr) =>
    StoreP P T_api_Errno (.pointer (some (a2.add 2))) (.int .i64 x1) w fun w3 =>
     R (.tuple #[]) w3)
   (R (.tuple #[]) w)
def an_codec_Reader_fail : Ann := ⟨[], [], []⟩
theorem e_codec_Reader_fail (R : Value → World → Prop) (x0 : Option Addr) (x1 : Int) (w : World) : denF P an_codec_Reader_fail Try.f48 [.pointer x0, .int .i64 x1] w R = S_codec_Reader_fail R x0 x1 w := by kernel_rfl
theorem c_codec_Reader_fail {R : Value → World → Prop} {x0 : Option Addr} {x1 : Int} {w : World} (h : S_codec_Reader_fail R x0 x1 w) : CallP P F_codec_Reader_fail [.pointer x0, .int .i64 x1] w R := calls_of_denF (an := an_codec_Reader_fail) Try.func48 (by rw [e_codec_Reader_fail]; exact h)


/-- penstock/penstockref03.Uint -/
def S_ref03_Uint (R : Value → World → Prop) (x0 : Int) (w : World) : Prop :=
 LoopP (T := Int × Sl × Unit) (some (x0, (⟨none, 0, 0⟩, ()))) w fun next0 t1 w2 =>
 ifB (IntKind.u64.wrap (Int.tdiv t1.fst 128) == 0)
  (RunK .sl P (Instr.buildSlice T_sl_uint8 1 #[(0, (.int .u8 (IntKind.u8.wrap (Int.tmod t1.fst 128))))]) w2 fun (s3 : Sl) w4 =>
   RunK .sl P (Builtin.append_ #[T_sl_uint8, T_sl_uint8] T_sl_uint8 #[t1.snd.fst.v, s3.v]) w4 fun (s5 : Sl) w6 =>
    R s5.v w6)
  (RunK .sl P (Instr.buildSlice T_sl_uint8 1 #[(0, (.int .u8 (IntKind.u8.wrap (IntKind.u64.wrap (Int.tmod t1.fst 128 + 128)))))]) w2 fun (s7 : Sl) w8 =>
   RunK .sl P (Builtin.append_ #[T_sl_uint8, T_sl_uint8] T_sl_uint8 #[t1.snd.fst.v, s7.v]) w8 fun (s9 : Sl) w10 =>
    next0 (some ((IntKind.u64.wrap (Int.tdiv t1.fst 128)), (s9, ()))) w10)
def an_ref03_Uint : Ann := ⟨[], [(2, [(0, (.int .u64)), (3, .sl)])], []⟩
theorem e_ref03_Uint (R : Value → World → Prop) (x0 : Int) (w : World) : denF P an_ref03_Uint Try.f49 [.int .u64 x0] w R = S_ref03_Uint R x0 w := by kernel_rfl
theorem c_ref03_Uint {R : Value → World → Prop} {x0 : Int} {w : World} (h : S_ref03_Uint R x0 w) : CallP P F_ref03_Uint [.int .u64 x0] w R := calls_of_denF (an := an_ref03_Uint) Try.func49 (by rw [e_ref03_Uint]; exact h)


/-- penstock/penstockref03.Int -/
def S_ref03_Int (R : Value → World → Prop) (x0 : Int) (w : World) : Prop :=
 CallP P F_ref03_Zig [(.int .i64 x0)] w fun (v0 : Value) w1 =>
 TyP (.int .u64) v0 fun (n2 : Int) =>
  CallP P F_ref03_Uint [(.int .u64 n2)] w1 fun (v3 : Value) w4 =>
   TyP .sl v3 fun (s5 : Sl) =>
    R s5.v w4
def an_ref03_Int : Ann := ⟨[], [], []⟩
theorem e_ref03_Int (R : Value → World → Prop) (x0 : Int) (w : World) : denF P an_ref03_Int Try.f50 [.int .i64 x0] w R = S_ref03_Int R x0 w := by kernel_rfl
theorem c_ref03_Int {R : Value → World → Prop} {x0 : Int} {w : World} (h : S_ref03_Int R x0 w) : CallP P F_ref03_Int [.int .i64 x0] w R := calls_of_denF (an := an_ref03_Int) Try.func50 (by rw [e_ref03_Int]; exact h)


/-- (*penstock/codec.Writer).Flag -/
def S_codec_Writer_Flag (R : Value → World → Prop) (x0 : Option Addr) (x1 : Bool) (w : World) : Prop :=
 ifB x1
 (CallP P F_codec_Writer_Uint [(.pointer x0), (.int .u64 1)] w fun (v0 : Value) w1 =>
  TupP [] v0 fun (t2 : Unit) =>
   R (.tuple #[]) w1)
 (CallP P F_codec_Writer_Uint [(.pointer x0), (.int .u64 0)] w fun (v3 : Value) w4 =>
  TupP [] v3 fun (t5 : Unit) =>
   R (.tuple #[]) w4)
def an_codec_Writer_Flag : Ann := ⟨[], [], []⟩
theorem e_codec_Writer_Flag (R : Value → World → Prop) (x0 : Option Addr) (x1 : Bool) (w : World) : denF P an_codec_Writer_Flag Try.f51 [.pointer x0, .bool x1] w R = S_codec_Writer_Flag R x0 x1 w := by kernel_rfl
theorem c_codec_Writer_Flag {R : Value → World → Prop} {x0 : Option Addr} {x1 : Bool} {w : World} (h : S_codec_Writer_Flag R x0 x1 w) : CallP P F_codec_Writer_Flag [.pointer x0, .bool x1] w R := calls_of_denF (an := an_codec_Writer_Flag) Try.func51 (by rw [e_codec_Writer_Flag]; exact h)


/-- penstock/penstockref03.Flag -/
def S_ref03_Flag (R : Value → World → Prop) (x0 : Bool) (w : World) : Prop :=
 ifB x0
 (RunK .sl P (Instr.buildSlice T_sl_uint8 1 #[(0, (.int .u8 1))]) w fun (s0 : Sl) w1 =>
  R s0.v w1)
 (RunK .sl P (Instr.buildSlice T_sl_uint8 1 #[(0, (.int .u8 0))]) w fun (s2 : Sl) w3 =>
  R s2.v w3)
def an_ref03_Flag : Ann := ⟨[], [], []⟩
theorem e_ref03_Flag (R : Value → World → Prop) (x0 : Bool) (w : World) : denF P an_ref03_Flag Try.f52 [.bool x0] w R = S_ref03_Flag R x0 w := by kernel_rfl
theorem c_ref03_Flag {R : Value → World → Prop} {x0 : Bool} {w : World} (h : S_ref03_Flag R x0 w) : CallP P F_ref03_Flag [.bool x0] w R := calls_of_denF (an := an_ref03_Flag) Try.func52 (by rw [e_ref03_Flag]; exact h)


/-- (*penstock/codec.Writer).Fixed -/
def S_codec_Writer_Fixed (R : Value → World → Prop) (x0 : Option Addr) (x1 : Int) (w : World) : Prop :=
 ifB (!Option.isNone x0)
 (nilCk x0 fun (a0 : Addr) =>
  RunQ .sl P (Instr.loadAt T_sl_uint8 (.pointer (some (a0.add 0)))) w fun (s1 : Sl) =>
   RunK .sl P (Instr.buildSlice T_sl_uint8 4 #[(0, (.int .u8 (IntKind.u8.wrap x1))), (1, (.int .u8 (IntKind.u8.wrap (Int.fdiv x1 (2 ^ 8))))), (2, (.int .u8 (IntKind.u8.wrap (Int.fdiv x1 (2 ^ 16))))), (3, (.int .u8 (IntKind.u8.wrap (Int.fdiv x1 (2 ^ 24)))))]) w fun (s2 : Sl) w3 =>
    RunK .sl P (Builtin.append_ #[T_sl_uint8, T_sl_uint8] T_sl_uint8 #[s1.v, s2.v]) w3 fun (s4 : Sl) w5 =>
     nilCk x0 fun (a6 : Addr) =>
      StoreP P T_sl_uint8 (.pointer (some (a6.add 0))) s4.v w5 fun w7 =>
       R (.tuple #[]) w7)
 (R (.tuple #[]) w)
def an_codec_Writer_Fixed : Ann := ⟨[], [], []⟩
theorem e_codec_Writer_Fixed (R : Value → World → Prop) (x0 : Option Addr) (x1 : Int) (w : World) : denF P an_codec_Writer_Fixed Try.f53 [.pointer x0, .int .u32 x1] w R = S_codec_Writer_Fixed R x0 x1 w := by kernel_rfl
theorem c_codec_Writer_Fixed {R : Value → World → Prop} {x0 : Option Addr} {x1 : Int} {w : World} (h : S_codec_Writer_Fixed R x0 x1 w) : CallP P F_codec_Writer_Fixed [.pointer x0, .int .u32 x1] w R := calls_of_denF (an := an_codec_Writer_Fixed) Try.func53 (by rw [e_codec_Writer_Fixed]; exact h)


/-- penstock/penstockref03.Fixed -/
def S_ref03_Fixed (R : Value → World → Prop) (x0 : Int) (w : World) : Prop :=
 RunK .sl P (Instr.buildSlice T_sl_uint8 4 #[(0, (.int .u8 (IntKind.u8.wrap (Int.tmod x0 256)))), (1, (.int .u8 (IntKind.u8.wrap ((IntKind.u32.wrap (Int.tdiv x0 256)).tmod 256)))), (2, (.int .u8 (IntKind.u8.wrap ((IntKind.u32.wrap (Int.tdiv x0 65536)).tmod 256)))), (3, (.int .u8 (IntKind.u8.wrap (IntKind.u32.wrap (Int.tdiv x0 16777216)))))]) w fun (s0 : Sl) w1 =>
 R s0.v w1
def an_ref03_Fixed : Ann := ⟨[], [], []⟩
theorem e_ref03_Fixed (R : Value → World → Prop) (x0 : Int) (w : World) : denF P an_ref03_Fixed Try.f54 [.int .u32 x0] w R = S_ref03_Fixed R x0 w := by kernel_rfl
theorem c_ref03_Fixed {R : Value → World → Prop} {x0 : Int} {w : World} (h : S_ref03_Fixed R x0 w) : CallP P F_ref03_Fixed [.int .u32 x0] w R := calls_of_denF (an := an_ref03_Fixed) Try.func54 (by rw [e_ref03_Fixed]; exact h)


/-- penstock/penstockref03.Bytes -/
def S_ref03_Bytes (R : Value → World → Prop) (x0 : Sl) (w : World) : Prop :=
 CallP P F_ref03_Uint [(.int .u64 (IntKind.u64.wrap (↑x0.len : Int)))] w fun (v0 : Value) w1 =>
 TyP .sl v0 fun (s2 : Sl) =>
  RunK .sl P (Builtin.append_ #[T_sl_uint8, T_sl_uint8] T_sl_uint8 #[s2.v, x0.v]) w1 fun (s3 : Sl) w4 =>
   R s3.v w4
def an_ref03_Bytes : Ann := ⟨[], [], []⟩
theorem e_ref03_Bytes (R : Value → World → Prop) (x0 : Sl) (w : World) : denF P an_ref03_Bytes Try.f55 [x0.v] w R = S_ref03_Bytes R x0 w := by kernel_rfl
theorem c_ref03_Bytes {R : Value → World → Prop} {x0 : Sl} {w : World} (h : S_ref03_Bytes R x0 w) : CallP P F_ref03_Bytes [x0.v] w R := calls_of_denF (an := an_ref03_Bytes) Try.func55 (by rw [e_ref03_Bytes]; exact h)


/-- penstock/penstockref03.Ints -/
def S_ref03_Ints (R : Value → World → Prop) (x0 : Sl) (w : World) : Prop :=
 CallP P F_ref03_Uint [(.int .u64 (IntKind.u64.wrap (↑x0.len : Int)))] w fun (v0 : Value) w1 =>
 TyP .sl v0 fun (s2 : Sl) =>
  LoopP (T := Sl × Int × Unit) (some (s2, (0, ()))) w1 fun next3 t4 w5 =>
   ifB (decide (t4.snd.fst < (↑x0.len : Int)))
    (RunQ .addr P (Instr.indexAt T_sl_int x0.v (.int .i64 t4.snd.fst)) w5 fun (a6 : Addr) =>
     RunQ (.int .i64) P (Instr.loadAt T_int (.pointer (some a6))) w5 fun (n7 : Int) =>
      CallP P F_ref03_Int [(.int .i64 n7)] w5 fun (v8 : Value) w9 =>
       TyP .sl v8 fun (s10 : Sl) =>
        RunK .sl P (Builtin.append_ #[T_sl_uint8, T_sl_uint8] T_sl_uint8 #[t4.fst.v, s10.v]) w9 fun (s11 : Sl) w12 =>
         next3 (some (s11, ((IntKind.i64.wrap (t4.snd.fst + 1)), ()))) w12)
    (R t4.fst.v w5)
def an_ref03_Ints : Ann := ⟨[], [(3, [(3, .sl), (4, (.int .i64))])], []⟩
theorem e_ref03_Ints (R : Value → World → Prop) (x0 : Sl) (w : World) : denF P an_ref03_Ints Try.f56 [x0.v] w R = S_ref03_Ints R x0 w := by kernel_rfl
theorem c_ref03_Ints {R : Value → World → Prop} {x0 : Sl} {w : World} (h : S_ref03_Ints R x0 w) : CallP P F_ref03_Ints [x0.v] w R := calls_of_denF (an := an_ref03_Ints) Try.func56 (by rw [e_ref03_Ints]; exact h)


/-- (*penstock/penstockref03.Reader).Uint -/
def S_ref03_Reader_Uint (R : Value → World → Prop) (x0 : Option Addr) (w : World) : Prop :=
 nilCk x0 fun (a0 : Addr) =>
 RunQ (.int .i64) P (Instr.loadAt T_int (.pointer (some (a0.add 2)))) w fun (n1 : Int) =>
  ifB (n1 != 0)
   (R (.int .u64 0) w)
   (LoopP (T := Int × Int × Unit) (some (0, (0, ()))) w fun next2 t3 w4 =>
    ifB (decide (t3.snd.fst < 10))
     (nilCk x0 fun (a5 : Addr) =>
      RunQ (.int .i64) P (Instr.loadAt T_int (.pointer (some (a5.add 1)))) w4.drew fun (n6 : Int) =>
       nilCk x0 fun (a7 : Addr) =>
        RunQ .sl P (Instr.loadAt T_sl_uint8 (.pointer (some (a7.add 0)))) w4.drew fun (s8 : Sl) =>
         ifB (decide (IntKind.i64.wrap (n6 + t3.snd.fst) ≥ (↑s8.len : Int)))
          (CallP P F_ref03_Reader_fail [(.pointer x0), (.int .i64 6)] w4.drew fun (v9 : Value) w10 =>
           TupP [] v9 fun (t11 : Unit) =>
            R (.int .u64 0) w10)
          (nilCk x0 fun (a12 : Addr) =>
           RunQ .sl P (Instr.loadAt T_sl_uint8 (.pointer (some (a12.add 0)))) w4.drew.drew fun (s13 : Sl) =>
            nilCk x0 fun (a14 : Addr) =>
             RunQ (.int .i64) P (Instr.loadAt T_int (.pointer (some (a14.add 1)))) w4.drew.drew fun (n15 : Int) =>
              RunQ .addr P (Instr.indexAt T_sl_uint8 s13.v (.int .i64 (IntKind.i64.wrap (n15 + t3.snd.fst)))) w4.drew.drew fun (a16 : Addr) =>
               RunQ (.int .u8) P (Instr.loadAt T_uint8 (.pointer (some a16))) w4.drew.drew fun (n17 : Int) =>
                JoinP (T := Unit) (fun J18 =>
                ifB (t3.snd.fst == 9)
                (ifB (decide (IntKind.u64.wrap n17 > 1))
                (CallP P F_ref03_Reader_fail [(.pointer x0), (.int .i64 7)] w4.drew.drew fun (v21 : Value) w22 =>
                TupP [] v21 fun (t23 : Unit) =>
                R (.int .u64 0) w22)
                (ifB (decide (t3.snd.fst > 0))
                (ifB (IntKind.u64.wrap n17 == 0)
                (CallP P F_ref03_Reader_fail [(.pointer x0), (.int .i64 7)] w4.drew.drew fun (v24 : Value) w25 =>
                TupP [] v24 fun (t26 : Unit) =>
                R (.int .u64 0) w25)
                (J18 (some ()) w4.drew.drew))
                (J18 (some ()) w4.drew.drew)))
                (ifB (decide (t3.snd.fst > 0))
                (ifB (IntKind.u64.wrap n17 == 0)
                (CallP P F_ref03_Reader_fail [(.pointer x0), (.int .i64 7)] w4.drew.drew fun (v27 : Value) w28 =>
                TupP [] v27 fun (t29 : Unit) =>
                R (.int .u64 0) w28)
                (J18 (some ()) w4.drew.drew))
                (J18 (some ()) w4.drew.drew)))
                fun t19 w20 =>
                RunK (.int .u64) P (do (eqGuard .shl T_uint64 (.tmp 0) (.tmp 0) (.int .u64 ((IntKind.u64.wrap n17).tmod 128)) (.int .u64 (IntKind.u64.wrap (IntKind.i64.wrap (7 * t3.snd.fst))))); (binOp .shl T_uint64 (.int .u64 ((IntKind.u64.wrap n17).tmod 128)) (.int .u64 (IntKind.u64.wrap (IntKind.i64.wrap (7 * t3.snd.fst)))))) w20 fun (n30 : Int) w31 =>
                ifB (decide (IntKind.u64.wrap n17 < 128))
                (nilCk x0 fun (a32 : Addr) =>
                RunQ (.int .i64) P (Instr.loadAt T_int (.pointer (some (a32.add 1)))) w31 fun (n33 : Int) =>
                nilCk x0 fun (a34 : Addr) =>
                StoreP P T_int (.pointer (some (a34.add 1))) (.int .i64 (IntKind.i64.wrap (IntKind.i64.wrap (n33 + t3.snd.fst) + 1))) w31 fun w35 =>
                R (.int .u64 (IntKind.u64.wrap (t3.fst + n30))) w35)
                (next2 (some ((IntKind.u64.wrap (t3.fst + n30)), ((IntKind.i64.wrap (t3.snd.fst + 1)), ()))) w31)))
     (CallP P F_ref03_Reader_fail [(.pointer x0), (.int .i64 7)] w4 fun (v36 : Value) w37 =>
      TupP [] v36 fun (t38 : Unit) =>
       R (.int .u64 0) w37))
def an_ref03_Reader_Uint : Ann := ⟨[(14, [])], [(5, [(3, (.int .u64)), (4, (.int .i64))])], []⟩
theorem e_ref03_Reader_Uint (R : Value → World → Prop) (x0 : Option Addr) (w : World) : denF P an_ref03_Reader_Uint Try.f57 [.pointer x0] w R = S_ref03_Reader_Uint R x0 w := by kernel_rfl
theorem c_ref03_Reader_Uint {R : Value → World → Prop} {x0 : Option Addr} {w : World} (h : S_ref03_Reader_Uint R x0 w) : CallP P F_ref03_Reader_Uint [.pointer x0] w R := calls_of_denF (an := an_ref03_Reader_Uint) Try.func57 (by rw [e_ref03_Reader_Uint]; exact h)


/-- (*penstock/penstockref03.Reader).Int -/
def S_ref03_Reader_Int (R : Value → World → Prop) (x0 : Option Addr) (w : World) : Prop :=
 CallP P F_ref03_Reader_Uint [(.pointer x0)] w fun (v0 : Value) w1 =>
 TyP (.int .u64) v0 fun (n2 : Int) =>
  CallP P F_ref03_Zag [(.int .u64 n2)] w1 fun (v3 : Value) w4 =>
   TyP (.int .i64) v3 fun (n5 : Int) =>
    R (.int .i64 n5) w4
def an_ref03_Reader_Int : Ann := ⟨[], [], []⟩
theorem e_ref03_Reader_Int (R : Value → World → Prop) (x0 : Option Addr) (w : World) : denF P an_ref03_Reader_Int Try.f58 [.pointer x0] w R = S_ref03_Reader_Int R x0 w := by kernel_rfl
theorem c_ref03_Reader_Int {R : Value → World → Prop} {x0 : Option Addr} {w : World} (h : S_ref03_Reader_Int R x0 w) : CallP P F_ref03_Reader_Int [.pointer x0] w R := calls_of_denF (an := an_ref03_Reader_Int) Try.func58 (by rw [e_ref03_Reader_Int]; exact h)


/-- (*penstock/penstockref03.Reader).Flag -/
def S_ref03_Reader_Flag (R : Value → World → Prop) (x0 : Option Addr) (w : World) : Prop :=
 CallP P F_ref03_Reader_Uint [(.pointer x0)] w fun (v0 : Value) w1 =>
 TyP (.int .u64) v0 fun (n2 : Int) =>
  ifB (decide (n2 > 1))
   (CallP P F_ref03_Reader_fail [(.pointer x0), (.int .i64 7)] w1 fun (v3 : Value) w4 =>
    TupP [] v3 fun (t5 : Unit) =>
     R (.bool false) w4)
   (R (.bool (n2 == 1)) w1)
def an_ref03_Reader_Flag : Ann := ⟨[], [], []⟩
theorem e_ref03_Reader_Flag (R : Value → World → Prop) (x0 : Option Addr) (w : World) : denF P an_ref03_Reader_Flag Try.f59 [.pointer x0] w R = S_ref03_Reader_Flag R x0 w := by kernel_rfl
theorem c_ref03_Reader_Flag {R : Value → World → Prop} {x0 : Option Addr} {w : World} (h : S_ref03_Reader_Flag R x0 w) : CallP P F_ref03_Reader_Flag [.pointer x0] w R := calls_of_denF (an := an_ref03_Reader_Flag) Try.func59 (by rw [e_ref03_Reader_Flag]; exact h)


/-- (*penstock/penstockref03.Reader).Fixed -/
def S_ref03_Reader_Fixed (R : Value → World → Prop) (x0 : Option Addr) (w : World) : Prop :=
 nilCk x0 fun (a0 : Addr) =>
 RunQ (.int .i64) P (Instr.loadAt T_int (.pointer (some (a0.add 2)))) w fun (n1 : Int) =>
  ifB (n1 != 0)
   (R (.int .u32 0) w)
   (nilCk x0 fun (a2 : Addr) =>
    RunQ (.int .i64) P (Instr.loadAt T_int (.pointer (some (a2.add 1)))) w.drew fun (n3 : Int) =>
     nilCk x0 fun (a4 : Addr) =>
      RunQ .sl P (Instr.loadAt T_sl_uint8 (.pointer (some (a4.add 0)))) w.drew fun (s5 : Sl) =>
       ifB (decide (IntKind.i64.wrap (n3 + 4) > (↑s5.len : Int)))
        (CallP P F_ref03_Reader_fail [(.pointer x0), (.int .i64 6)] w.drew fun (v6 : Value) w7 =>
         TupP [] v6 fun (t8 : Unit) =>
          R (.int .u32 0) w7)
        (LoopP (T := Int × Int × Unit) (some (0, (3, ()))) w.drew fun next9 t10 w11 =>
         ifB (decide (t10.snd.fst ≥ 0))
          (nilCk x0 fun (a12 : Addr) =>
           RunQ .sl P (Instr.loadAt T_sl_uint8 (.pointer (some (a12.add 0)))) w11.drew fun (s13 : Sl) =>
            nilCk x0 fun (a14 : Addr) =>
             RunQ (.int .i64) P (Instr.loadAt T_int (.pointer (some (a14.add 1)))) w11.drew fun (n15 : Int) =>
              RunQ .addr P (Instr.indexAt T_sl_uint8 s13.v (.int .i64 (IntKind.i64.wrap (n15 + t10.snd.fst)))) w11.drew fun (a16 : Addr) =>
               RunQ (.int .u8) P (Instr.loadAt T_uint8 (.pointer (some a16))) w11.drew fun (n17 : Int) =>
                next9 (some ((IntKind.u32.wrap (IntKind.u32.wrap (256 * t10.fst) + IntKind.u32.wrap n17)), ((IntKind.i64.wrap (t10.snd.fst - 1)), ()))) w11.drew)
          (nilCk x0 fun (a18 : Addr) =>
           RunQ (.int .i64) P (Instr.loadAt T_int (.pointer (some (a18.add 1)))) w11 fun (n19 : Int) =>
            nilCk x0 fun (a20 : Addr) =>
             StoreP P T_int (.pointer (some (a20.add 1))) (.int .i64 (IntKind.i64.wrap (n19 + 4))) w11 fun w21 =>
              R (.int .u32 t10.fst) w21)))
def an_ref03_Reader_Fixed : Ann := ⟨[], [(8, [(3, (.int .u32)), (4, (.int .i64))])], []⟩
theorem e_ref03_Reader_Fixed (R : Value → World → Prop) (x0 : Option Addr) (w : World) : denF P an_ref03_Reader_Fixed Try.f60 [.pointer x0] w R = S_ref03_Reader_Fixed R x0 w := by kernel_rfl
theorem c_ref03_Reader_Fixed {R : Value → World → Prop} {x0 : Option Addr} {w : World} (h : S_ref03_Reader_Fixed R x0 w) : CallP P F_ref03_Reader_Fixed [.pointer x0] w R := calls_of_denF (an := an_ref03_Reader_Fixed) Try.func60 (by rw [e_ref03_Reader_Fixed]; exact h)


/-- (*penstock/penstockref03.Reader).Bytes -/
def S_ref03_Reader_Bytes (R : Value → World → Prop) (x0 : Option Addr) (w : World) : Prop :=
 CallP P F_ref03_Reader_Uint [(.pointer x0)] w fun (v0 : Value) w1 =>
 TyP (.int .u64) v0 fun (n2 : Int) =>
  nilCk x0 fun (a3 : Addr) =>
   RunQ (.int .i64) P (Instr.loadAt T_int (.pointer (some (a3.add 2)))) w1 fun (n4 : Int) =>
    ifB (n4 != 0)
     (R (.slice none 0 0) w1)
     (ifB (decide (n2 > 4096))
      (CallP P F_ref03_Reader_fail [(.pointer x0), (.int .i64 2)] w1 fun (v5 : Value) w6 =>
       TupP [] v5 fun (t7 : Unit) =>
        R (.slice none 0 0) w6)
      (nilCk x0 fun (a8 : Addr) =>
       RunQ (.int .i64) P (Instr.loadAt T_int (.pointer (some (a8.add 1)))) w1.drew fun (n9 : Int) =>
        nilCk x0 fun (a10 : Addr) =>
         RunQ .sl P (Instr.loadAt T_sl_uint8 (.pointer (some (a10.add 0)))) w1.drew fun (s11 : Sl) =>
          ifB (decide (IntKind.i64.wrap (n9 + IntKind.i64.wrap n2) > (↑s11.len : Int)))
           (CallP P F_ref03_Reader_fail [(.pointer x0), (.int .i64 6)] w1.drew fun (v12 : Value) w13 =>
            TupP [] v12 fun (t14 : Unit) =>
             R (.slice none 0 0) w13)
           (LoopP (T := Sl × Int × Unit) (some (⟨none, 0, 0⟩, (0, ()))) w1.drew fun next15 t16 w17 =>
            ifB (decide (t16.snd.fst < IntKind.i64.wrap n2))
             (∃ S18 : World → Prop, (S18 w17.drew) ∧
               nilCk x0 fun (a19 : Addr) =>
                HRun S18 .sl P (Instr.loadAt T_sl_uint8 (.pointer (some (a19.add 0)))) fun (s20 : Sl) =>
                nilCk x0 fun (a21 : Addr) =>
                HRun S18 (.int .i64) P (Instr.loadAt T_int (.pointer (some (a21.add 1)))) fun (n22 : Int) =>
                HRun S18 .addr P (Instr.indexAt T_sl_uint8 s20.v (.int .i64 (IntKind.i64.wrap (n22 + t16.snd.fst)))) fun (a23 : Addr) =>
                HRun S18 (.int .u8) P (Instr.loadAt T_uint8 (.pointer (some a23))) fun (n24 : Int) =>
                RunK .sl P (Instr.buildSlice T_sl_uint8 1 #[(0, (.int .u8 n24))]) w17.drew fun (s25 : Sl) w26 =>
                (S18 w26) ∧
                RunK .sl P (Builtin.append_ #[T_sl_uint8, T_sl_uint8] T_sl_uint8 #[t16.fst.v, s25.v]) w26 fun (s27 : Sl) w28 =>
                (S18 w28) ∧
                next15 (some (s27, ((IntKind.i64.wrap (t16.snd.fst + 1)), ()))) w28)
             (nilCk x0 fun (a29 : Addr) =>
              RunQ (.int .i64) P (Instr.loadAt T_int (.pointer (some (a29.add 1)))) w17 fun (n30 : Int) =>
               nilCk x0 fun (a31 : Addr) =>
                StoreP P T_int (.pointer (some (a31.add 1))) (.int .i64 (IntKind.i64.wrap (n30 + IntKind.i64.wrap n2))) w17 fun w32 =>
                R t16.fst.v w32))))
def an_ref03_Reader_Bytes : Ann := ⟨[], [(12, [(4, .sl), (5, (.int .i64))])], []⟩
theorem e_ref03_Reader_Bytes (R : Value → World → Prop) (x0 : Option Addr) (w : World) : denF P an_ref03_Reader_Bytes Try.f61 [.pointer x0] w R = S_ref03_Reader_Bytes R x0 w := by kernel_rfl
theorem c_ref03_Reader_Bytes {R : Value → World → Prop} {x0 : Option Addr} {w : World} (h : S_ref03_Reader_Bytes R x0 w) : CallP P F_ref03_Reader_Bytes [.pointer x0] w R := calls_of_denF (an := an_ref03_Reader_Bytes) Try.func61 (by rw [e_ref03_Reader_Bytes]; exact h)


/-- (*penstock/penstockref03.Reader).Ints -/
def S_ref03_Reader_Ints (R : Value → World → Prop) (x0 : Option Addr) (w : World) : Prop :=
 CallP P F_ref03_Reader_Uint [(.pointer x0)] w fun (v0 : Value) w1 =>
 TyP (.int .u64) v0 fun (n2 : Int) =>
  JoinP (T := Unit) (fun J3 =>
   nilCk x0 fun (a6 : Addr) =>
    RunQ (.int .i64) P (Instr.loadAt T_int (.pointer (some (a6.add 2)))) w1 fun (n7 : Int) =>
     ifB (n7 == 0)
      (ifB (decide (n2 > 4096))
       (CallP P F_ref03_Reader_fail [(.pointer x0), (.int .i64 2)] w1 fun (v8 : Value) w9 =>
        TupP [] v8 fun (t10 : Unit) =>
         J3 (some ()) w9)
       (J3 (some ()) w1))
      (J3 (some ()) w1))
   fun t4 w5 =>
   nilCk x0 fun (a11 : Addr) =>
    RunQ (.int .i64) P (Instr.loadAt T_int (.pointer (some (a11.add 2)))) w5 fun (n12 : Int) =>
     ifB (n12 != 0)
      (R (.slice none 0 0) w5)
      (LoopP (T := Sl × Int × Unit) (some (⟨none, 0, 0⟩, (0, ()))) w5 fun next13 t14 w15 =>
       JoinP (T := Unit) (fun J16 =>
        ifB (decide (t14.snd.fst < IntKind.i64.wrap n2))
         (nilCk x0 fun (a19 : Addr) =>
          RunQ (.int .i64) P (Instr.loadAt T_int (.pointer (some (a19.add 2)))) w15 fun (n20 : Int) =>
           ifB (n20 == 0)
            (J16 (some ()) w15)
            (nilCk x0 fun (a21 : Addr) =>
             RunQ (.int .i64) P (Instr.loadAt T_int (.pointer (some (a21.add 2)))) w15 fun (n22 : Int) =>
              ifB (n22 != 0)
               (R (.slice none 0 0) w15)
               (R t14.fst.v w15)))
         (nilCk x0 fun (a23 : Addr) =>
          RunQ (.int .i64) P (Instr.loadAt T_int (.pointer (some (a23.add 2)))) w15 fun (n24 : Int) =>
           ifB (n24 != 0)
            (R (.slice none 0 0) w15)
            (R t14.fst.v w15)))
        fun t17 w18 =>
        CallP P F_ref03_Reader_Int [(.pointer x0)] w18 fun (v25 : Value) w26 =>
         TyP (.int .i64) v25 fun (n27 : Int) =>
          RunK .sl P (Instr.buildSlice T_sl_int 1 #[(0, (.int .i64 n27))]) w26 fun (s28 : Sl) w29 =>
           RunK .sl P (Builtin.append_ #[T_sl_int, T_sl_int] T_sl_int #[t14.fst.v, s28.v]) w29 fun (s30 : Sl) w31 =>
            next13 (some (s30, ((IntKind.i64.wrap (t14.snd.fst + 1)), ()))) w31)
def an_ref03_Reader_Ints : Ann := ⟨[(10, []), (4, [])], [(8, [(4, .sl), (5, (.int .i64))])], []⟩
theorem e_ref03_Reader_Ints (R : Value → World → Prop) (x0 : Option Addr) (w : World) : denF P an_ref03_Reader_Ints Try.f62 [.pointer x0] w R = S_ref03_Reader_Ints R x0 w := by kernel_rfl
theorem c_ref03_Reader_Ints {R : Value → World → Prop} {x0 : Option Addr} {w : World} (h : S_ref03_Reader_Ints R x0 w) : CallP P F_ref03_Reader_Ints [.pointer x0] w R := calls_of_denF (an := an_ref03_Reader_Ints) Try.func62 (by rw [e_ref03_Reader_Ints]; exact h)


/-- penstock/penstockref03.Zig -/
def S_ref03_Zig (R : Value → World → Prop) (x0 : Int) (w : World) : Prop :=
 ifB (decide (x0 ≥ 0))
 (R (.int .u64 (IntKind.u64.wrap (2 * IntKind.u64.wrap x0))) w)
 (R (.int .u64 (IntKind.u64.wrap (IntKind.u64.wrap (2 * IntKind.u64.wrap (IntKind.i64.wrap (0 - IntKind.i64.wrap (x0 + 1)))) + 1))) w)
def an_ref03_Zig : Ann := ⟨[], [], []⟩
theorem e_ref03_Zig (R : Value → World → Prop) (x0 : Int) (w : World) : denF P an_ref03_Zig Try.f63 [.int .i64 x0] w R = S_ref03_Zig R x0 w := by kernel_rfl
theorem c_ref03_Zig {R : Value → World → Prop} {x0 : Int} {w : World} (h : S_ref03_Zig R x0 w) : CallP P F_ref03_Zig [.int .i64 x0] w R := calls_of_denF (an := an_ref03_Zig) Try.func63 (by rw [e_ref03_Zig]; exact h)


/-- (*penstock/penstockref03.Reader).fail -/
def S_ref03_Reader_fail (R : Value → World → Prop) (x0 : Option Addr) (x1 : Int) (w : World) : Prop :=
 nilCk x0 fun (a0 : Addr) =>
 RunQ (.int .i64) P (Instr.loadAt T_int (.pointer (some (a0.add 2)))) w fun (n1 : Int) =>
  ifB (n1 == 0)
   (nilCk x0 fun (a2 : Addr) =>
    StoreP P T_int (.pointer (some (a2.add 2))) (.int .i64 x1) w fun w3 =>
     R (.tuple #[]) w3)
   (R (.tuple #[]) w)
def an_ref03_Reader_fail : Ann := ⟨[], [], []⟩
theorem e_ref03_Reader_fail (R : Value → World → Prop) (x0 : Option Addr) (x1 : Int) (w : World) : denF P an_ref03_Reader_fail Try.f64 [.pointer x0, .int .i64 x1] w R = S_ref03_Reader_fail R x0 x1 w := by kernel_rfl
theorem c_ref03_Reader_fail {R : Value → World → Prop} {x0 : Option Addr} {x1 : Int} {w : World} (h : S_ref03_Reader_fail R x0 x1 w) : CallP P F_ref03_Reader_fail [.pointer x0, .int .i64 x1] w R := calls_of_denF (an := an_ref03_Reader_fail) Try.func64 (by rw [e_ref03_Reader_fail]; exact h)


/-- penstock/penstockref03.Zag -/
def S_ref03_Zag (R : Value → World → Prop) (x0 : Int) (w : World) : Prop :=
 ifB (Int.tmod x0 2 == 0)
 (R (.int .i64 (IntKind.i64.wrap (IntKind.u64.wrap (Int.tdiv x0 2)))) w)
 (R (.int .i64 (IntKind.i64.wrap (IntKind.i64.wrap (0 - IntKind.i64.wrap (IntKind.u64.wrap (Int.tdiv x0 2))) - 1))) w)
def an_ref03_Zag : Ann := ⟨[], [], []⟩
theorem e_ref03_Zag (R : Value → World → Prop) (x0 : Int) (w : World) : denF P an_ref03_Zag Try.f65 [.int .u64 x0] w R = S_ref03_Zag R x0 w := by kernel_rfl
theorem c_ref03_Zag {R : Value → World → Prop} {x0 : Int} {w : World} (h : S_ref03_Zag R x0 w) : CallP P F_ref03_Zag [.int .u64 x0] w R := calls_of_denF (an := an_ref03_Zag) Try.func65 (by rw [e_ref03_Zag]; exact h)

end Go.Proofs.Ytcfgbboibgjlcaa
