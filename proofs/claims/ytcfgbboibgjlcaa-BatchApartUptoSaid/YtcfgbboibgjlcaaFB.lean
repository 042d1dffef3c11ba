/- The functions of the program as predicates over worlds, written by a program of mine (PkPrint); each is held against the code by the kernel. -/
import Derived.Test.YtcfgbboibgjlcaaN
namespace Go.Proofs.Ytcfgbboibgjlcaa
open Go Go.Pk
/-- penstock/penstocklaw03.CodecNumbers -/
def S_law03_CodecNumbers (R : Value → World → Prop) (x0 : Int) (x1 : Int) (x2 : Int) (w : World) : Prop :=
 CallP P F_codec_NewWriter [] w fun (v0 : Value) w1 =>
 TyP .ptr v0 fun (p2 : Option Addr) =>
  JoinP (T := Unit) (fun J3 =>
   CallP P F_law03_awake [] w1 fun (v6 : Value) w7 =>
    TyP .bool v6 fun (b8 : Bool) =>
     ifB (!b8)
      (R (.bool false) w7)
      (ifB (Option.isNone p2)
       (R (.bool false) w7)
       (J3 (some ()) w7)))
   fun t4 w5 =>
   CallP P F_codec_Writer_Uint [(.pointer p2), (.int .u64 x0)] w5 fun (v9 : Value) w10 =>
    TupP [] v9 fun (t11 : Unit) =>
     CallP P F_codec_Writer_Out [(.pointer p2)] w10 fun (v12 : Value) w13 =>
      TupP [.sl, (.int .i64)] v12 fun (t14 : Sl × Int × Unit) =>
       CallP P F_codec_Writer_Uint [(.pointer p2), (.int .u64 x1)] w13 fun (v15 : Value) w16 =>
        TupP [] v15 fun (t17 : Unit) =>
         CallP P F_codec_Writer_Out [(.pointer p2)] w16 fun (v18 : Value) w19 =>
          TupP [.sl, (.int .i64)] v18 fun (t20 : Sl × Int × Unit) =>
           CallP P F_codec_Writer_Int [(.pointer p2), (.int .i64 x2)] w19 fun (v21 : Value) w22 =>
            TupP [] v21 fun (t23 : Unit) =>
             CallP P F_codec_Writer_Out [(.pointer p2)] w22 fun (v24 : Value) w25 =>
              TupP [.sl, (.int .i64)] v24 fun (t26 : Sl × Int × Unit) =>
               CallP P F_codec_NewReader [t26.fst.v] w25 fun (v27 : Value) w28 =>
                TyP .ptr v27 fun (p29 : Option Addr) =>
                JoinP (T := Unit) (fun J30 =>
                ifB (t26.snd.fst != 0)
                (R (.bool false) w28)
                (ifB (decide ((↑t14.fst.len : Int) < 1))
                (R (.bool false) w28)
                (ifB (decide ((↑t14.fst.len : Int) > 10))
                (R (.bool false) w28)
                (ifB (decide (x0 ≤ x1))
                (ifB (decide ((↑t14.fst.len : Int) > IntKind.i64.wrap ((↑t20.fst.len : Int) - (↑t14.fst.len : Int))))
                (R (.bool false) w28)
                (J30 (some ()) w28))
                (J30 (some ()) w28)))))
                fun t31 w32 =>
                JoinP (T := Unit) (fun J33 =>
                CallP P F_codec_Reader_Uint [(.pointer p29)] w32 fun (v36 : Value) w37 =>
                TyP (.int .u64) v36 fun (n38 : Int) =>
                ifB (n38 != x0)
                (R (.bool false) w37)
                (CallP P F_codec_Reader_Uint [(.pointer p29)] w37 fun (v39 : Value) w40 =>
                TyP (.int .u64) v39 fun (n41 : Int) =>
                ifB (n41 != x1)
                (R (.bool false) w40)
                (CallP P F_codec_Reader_Int [(.pointer p29)] w40 fun (v42 : Value) w43 =>
                TyP (.int .i64) v42 fun (n44 : Int) =>
                ifB (n44 != x2)
                (R (.bool false) w43)
                (CallP P F_codec_Reader_End [(.pointer p29)] w43 fun (v45 : Value) w46 =>
                TyP (.int .i64) v45 fun (n47 : Int) =>
                ifB (n47 != 0)
                (R (.bool false) w46)
                (J33 (some ()) w46)))))
                fun t34 w35 =>
                ifB ((↑t14.fst.len : Int) == 1)
                (R (.bool true) w35)
                (RunK (.int .u64) P (do (eqGuard .shl T_uint64 (.const (.int .u64 1)) (.tmp 0) (.int .u64 1) (.int .u64 (IntKind.u64.wrap (IntKind.i64.wrap (7 * IntKind.i64.wrap ((↑t14.fst.len : Int) - 1)))))); (binOp .shl T_uint64 (.int .u64 1) (.int .u64 (IntKind.u64.wrap (IntKind.i64.wrap (7 * IntKind.i64.wrap ((↑t14.fst.len : Int) - 1))))))) w35 fun (n48 : Int) w49 =>
                R (.bool (decide (x0 ≥ n48))) w49)
def an_law03_CodecNumbers : Ann := ⟨[(15, []), (13, []), (4, [])], [], []⟩
theorem e_law03_CodecNumbers (R : Value → World → Prop) (x0 : Int) (x1 : Int) (x2 : Int) (w : World) : denF P an_law03_CodecNumbers Try.f3 [.int .u64 x0, .int .u64 x1, .int .i64 x2] w R = S_law03_CodecNumbers R x0 x1 x2 w := by kernel_rfl
theorem c_law03_CodecNumbers {R : Value → World → Prop} {x0 : Int} {x1 : Int} {x2 : Int} {w : World} (h : S_law03_CodecNumbers R x0 x1 x2 w) : CallP P F_law03_CodecNumbers [.int .u64 x0, .int .u64 x1, .int .i64 x2] w R := calls_of_denF (an := an_law03_CodecNumbers) Try.func3 (by rw [e_law03_CodecNumbers]; exact h)


/-- penstock/penstocklaw03.CodecLays -/
def S_law03_CodecLays (R : Value → World → Prop) (x0 : Sl) (w : World) : Prop :=
 CallP P F_codec_NewWriter [] w fun (v0 : Value) w1 =>
 TyP .ptr v0 fun (p2 : Option Addr) =>
  JoinP (T := Unit) (fun J3 =>
   CallP P F_law03_awake [] w1 fun (v6 : Value) w7 =>
    TyP .bool v6 fun (b8 : Bool) =>
     ifB (!b8)
      (R (.bool false) w7)
      (ifB (Option.isNone p2)
       (R (.bool false) w7)
       (J3 (some ()) w7)))
   fun t4 w5 =>
   LoopP (T := Sl × Bool × Int × Unit) (some (⟨none, 0, 0⟩, (false, (0, ())))) w5 fun next9 t10 w11 =>
    ifB (decide (t10.snd.snd.fst < (↑x0.len : Int)))
     (RunQ .addr P (Instr.indexAt T_sl_penstocklaw03_Op x0.v (.int .i64 t10.snd.snd.fst)) w11 fun (a12 : Addr) =>
      RunQ .val P (Instr.loadAt T_penstocklaw03_Op (.pointer (some a12))) w11 fun (v13 : Value) =>
       RunK .addr P (Instr.alloc T_penstocklaw03_Op true (.tuple #[])) w11 fun (a14 : Addr) w15 =>
        StoreP P T_penstocklaw03_Op (.pointer (some a14)) v13 w15 fun w16 =>
         RunQ .val P (Instr.loadAt T_penstocklaw03_Op (.pointer (some a14))) w16 fun (v17 : Value) =>
          CallP P F_law03_lay [(.pointer p2), t10.fst.v, v17] w16 fun (v18 : Value) w19 =>
           TyP .sl v18 fun (s20 : Sl) =>
            ifB t10.snd.fst
             (next9 (some (s20, (true, ((IntKind.i64.wrap (t10.snd.snd.fst + 1)), ())))) w19)
             (RunQ (.int .i64) P (Instr.loadAt T_int (.pointer (some (Go.Addr.add a14 0)))) w19 fun (n21 : Int) =>
              ifB (n21 == 4)
               (RunQ .sl P (Instr.loadAt T_sl_uint8 (.pointer (some (Go.Addr.add a14 4)))) w19 fun (s22 : Sl) =>
                next9 (some (s20, ((decide ((↑s22.len : Int) > 4096)), ((IntKind.i64.wrap (t10.snd.snd.fst + 1)), ())))) w19)
               (next9 (some (s20, (false, ((IntKind.i64.wrap (t10.snd.snd.fst + 1)), ())))) w19)))
     (LoopP (T := Int × Unit) (some (0, ())) w11 fun next23 t24 w25 =>
      ifB (decide (t24.fst < 2))
       (CallP P F_codec_Writer_Out [(.pointer p2)] w25 fun (v26 : Value) w27 =>
        TupP [.sl, (.int .i64)] v26 fun (t28 : Sl × Int × Unit) =>
         ifB t10.snd.fst
          (ifB (t28.snd.fst != 2)
           (R (.bool false) w27)
           (ifB ((↑t28.fst.len : Int) != 0)
            (R (.bool false) w27)
            (next23 (some ((IntKind.i64.wrap (t24.fst + 1)), ())) w27)))
          (JoinP (T := Unit) (fun J29 =>
           ifB (t28.snd.fst != 0)
            (R (.bool false) w27)
            (CallP P F_ref03_Same [t28.fst.v, t10.fst.v] w27 fun (v32 : Value) w33 =>
             TyP .bool v32 fun (b34 : Bool) =>
              ifB (!b34)
               (R (.bool false) w33)
               (J29 (some ()) w33)))
           fun t30 w31 =>
           LoopP (T := Int × Unit) (some (0, ())) w31 fun next35 t36 w37 =>
            ifB (decide (t36.fst < (↑t28.fst.len : Int)))
             (RunQ .addr P (Instr.indexAt T_sl_uint8 t28.fst.v (.int .i64 t36.fst)) w37 fun (a38 : Addr) =>
              StoreP P T_uint8 (.pointer (some a38)) (.int .u8 7) w37 fun w39 =>
               next35 (some ((IntKind.i64.wrap (t36.fst + 1)), ())) w39)
             (next23 (some ((IntKind.i64.wrap (t24.fst + 1)), ())) w37)))
       (R (.bool true) w25))
def an_law03_CodecLays : Ann := ⟨[(21, []), (4, [])], [(7, [(4, .sl), (5, .bool), (21, (.int .i64))]), (22, [(11, (.int .i64))]), (13, [(8, (.int .i64))])], []⟩
theorem e_law03_CodecLays (R : Value → World → Prop) (x0 : Sl) (w : World) : denF P an_law03_CodecLays Try.f4 [x0.v] w R = S_law03_CodecLays R x0 w := by kernel_rfl
theorem c_law03_CodecLays {R : Value → World → Prop} {x0 : Sl} {w : World} (h : S_law03_CodecLays R x0 w) : CallP P F_law03_CodecLays [x0.v] w R := calls_of_denF (an := an_law03_CodecLays) Try.func4 (by rw [e_law03_CodecLays]; exact h)


/-- penstock/penstocklaw03.CodecOwn -/
def S_law03_CodecOwn (R : Value → World → Prop) (x0 : Sl) (x1 : Sl) (w : World) : Prop :=
 CallP P F_codec_NewWriter [] w fun (v0 : Value) w1 =>
 TyP .ptr v0 fun (p2 : Option Addr) =>
  JoinP (T := Unit) (fun J3 =>
   CallP P F_law03_awake [] w1 fun (v6 : Value) w7 =>
    TyP .bool v6 fun (b8 : Bool) =>
     ifB (!b8)
      (CallP P F_law03_awake [] w7 fun (v9 : Value) w10 =>
       TyP .bool v9 fun (b11 : Bool) =>
        R (.bool b11) w10)
      (ifB (Option.isNone p2)
       (CallP P F_law03_awake [] w7 fun (v12 : Value) w13 =>
        TyP .bool v12 fun (b14 : Bool) =>
         R (.bool b14) w13)
       (ifB (decide ((↑x0.len : Int) > 4096))
        (CallP P F_law03_awake [] w7 fun (v15 : Value) w16 =>
         TyP .bool v15 fun (b17 : Bool) =>
          R (.bool b17) w16)
        (ifB (decide ((↑x1.len : Int) > 4096))
         (CallP P F_law03_awake [] w7 fun (v18 : Value) w19 =>
          TyP .bool v18 fun (b20 : Bool) =>
           R (.bool b20) w19)
         (J3 (some ()) w7)))))
   fun t4 w5 =>
   RunK .sl P (Instr.buildSlice T_sl_uint8 0 #[]) w5 fun (s21 : Sl) w22 =>
    RunK .sl P (Builtin.append_ #[T_sl_uint8, T_sl_uint8] T_sl_uint8 #[s21.v, x0.v]) w22 fun (s23 : Sl) w24 =>
     RunK .sl P (Instr.buildSlice T_sl_int 0 #[]) w24 fun (s25 : Sl) w26 =>
      RunK .sl P (Builtin.append_ #[T_sl_int, T_sl_int] T_sl_int #[s25.v, x1.v]) w26 fun (s27 : Sl) w28 =>
       CallP P F_codec_Writer_Bytes [(.pointer p2), s23.v] w28 fun (v29 : Value) w30 =>
        TupP [] v29 fun (t31 : Unit) =>
         CallP P F_codec_Writer_Ints [(.pointer p2), s27.v] w30 fun (v32 : Value) w33 =>
          TupP [] v32 fun (t34 : Unit) =>
           JoinP (T := Unit) (fun J35 =>
            CallP P F_ref03_Same [s23.v, x0.v] w33 fun (v38 : Value) w39 =>
             TyP .bool v38 fun (b40 : Bool) =>
              ifB (!b40)
               (R (.bool false) w39)
               (CallP P F_ref03_SameInts [s27.v, x1.v] w39 fun (v41 : Value) w42 =>
                TyP .bool v41 fun (b43 : Bool) =>
                ifB (!b43)
                (R (.bool false) w42)
                (J35 (some ()) w42)))
            fun t36 w37 =>
            LoopP (T := Int × Unit) (some (0, ())) w37 fun next44 t45 w46 =>
             ifB (decide (t45.fst < (↑s23.len : Int)))
              (RunQ .addr P (Instr.indexAt T_sl_uint8 s23.v (.int .i64 t45.fst)) w46 fun (a47 : Addr) =>
               RunQ (.int .u8) P (Instr.loadAt T_uint8 (.pointer (some a47))) w46 fun (n48 : Int) =>
                RunQ .addr P (Instr.indexAt T_sl_uint8 s23.v (.int .i64 t45.fst)) w46 fun (a49 : Addr) =>
                StoreP P T_uint8 (.pointer (some a49)) (.int .u8 (IntKind.u8.wrap (n48 + 1))) w46 fun w50 =>
                next44 (some ((IntKind.i64.wrap (t45.fst + 1)), ())) w50)
              (LoopP (T := Int × Unit) (some (0, ())) w46 fun next51 t52 w53 =>
               ifB (decide (t52.fst < (↑s27.len : Int)))
                (RunQ .addr P (Instr.indexAt T_sl_int s27.v (.int .i64 t52.fst)) w53 fun (a54 : Addr) =>
                RunQ (.int .i64) P (Instr.loadAt T_int (.pointer (some a54))) w53 fun (n55 : Int) =>
                RunQ .addr P (Instr.indexAt T_sl_int s27.v (.int .i64 t52.fst)) w53 fun (a56 : Addr) =>
                StoreP P T_int (.pointer (some a56)) (.int .i64 (IntKind.i64.wrap (n55 + 1))) w53 fun w57 =>
                next51 (some ((IntKind.i64.wrap (t52.fst + 1)), ())) w57)
                (CallP P F_codec_Writer_Out [(.pointer p2)] w53 fun (v58 : Value) w59 =>
                TupP [.sl, (.int .i64)] v58 fun (t60 : Sl × Int × Unit) =>
                RunK .sl P (Instr.buildSlice T_sl_uint8 0 #[]) w59 fun (s61 : Sl) w62 =>
                RunK .sl P (Builtin.append_ #[T_sl_uint8, T_sl_uint8] T_sl_uint8 #[s61.v, t60.fst.v]) w62 fun (s63 : Sl) w64 =>
                CallP P F_codec_NewReader [s63.v] w64 fun (v65 : Value) w66 =>
                TyP .ptr v65 fun (p67 : Option Addr) =>
                LoopP (T := Int × Unit) (some (0, ())) w66 fun next68 t69 w70 =>
                ifB (decide (t69.fst < (↑s63.len : Int)))
                (RunQ .addr P (Instr.indexAt T_sl_uint8 s63.v (.int .i64 t69.fst)) w70 fun (a71 : Addr) =>
                StoreP P T_uint8 (.pointer (some a71)) (.int .u8 9) w70 fun w72 =>
                next68 (some ((IntKind.i64.wrap (t69.fst + 1)), ())) w72)
                (CallP P F_codec_Reader_Bytes [(.pointer p67)] w70 fun (v73 : Value) w74 =>
                TyP .sl v73 fun (s75 : Sl) =>
                CallP P F_codec_Reader_Ints [(.pointer p67)] w74 fun (v76 : Value) w77 =>
                TyP .sl v76 fun (s78 : Sl) =>
                JoinP (T := Unit) (fun J79 =>
                ifB (t60.snd.fst != 0)
                (R (.bool false) w77)
                (CallP P F_codec_Reader_End [(.pointer p67)] w77 fun (v82 : Value) w83 =>
                TyP (.int .i64) v82 fun (n84 : Int) =>
                ifB (n84 != 0)
                (R (.bool false) w83)
                (CallP P F_ref03_Same [s75.v, x0.v] w83 fun (v85 : Value) w86 =>
                TyP .bool v85 fun (b87 : Bool) =>
                ifB (!b87)
                (R (.bool false) w86)
                (CallP P F_ref03_SameInts [s78.v, x1.v] w86 fun (v88 : Value) w89 =>
                TyP .bool v88 fun (b90 : Bool) =>
                ifB (!b90)
                (R (.bool false) w89)
                (J79 (some ()) w89)))))
                fun t80 w81 =>
                CallP P F_codec_NewReader [t60.fst.v] w81 fun (v91 : Value) w92 =>
                TyP .ptr v91 fun (p93 : Option Addr) =>
                CallP P F_codec_Reader_Bytes [(.pointer p93)] w92 fun (v94 : Value) w95 =>
                TyP .sl v94 fun (s96 : Sl) =>
                LoopP (T := Int × Unit) (some (0, ())) w95 fun next97 t98 w99 =>
                ifB (decide (t98.fst < (↑s96.len : Int)))
                (RunQ .addr P (Instr.indexAt T_sl_uint8 s96.v (.int .i64 t98.fst)) w99 fun (a100 : Addr) =>
                StoreP P T_uint8 (.pointer (some a100)) (.int .u8 3) w99 fun w101 =>
                next97 (some ((IntKind.i64.wrap (t98.fst + 1)), ())) w101)
                (CallP P F_codec_Reader_Ints [(.pointer p93)] w99 fun (v102 : Value) w103 =>
                TyP .sl v102 fun (s104 : Sl) =>
                CallP P F_ref03_SameInts [s104.v, x1.v] w103 fun (v105 : Value) w106 =>
                TyP .bool v105 fun (b107 : Bool) =>
                ifB b107
                (CallP P F_codec_Reader_End [(.pointer p93)] w106 fun (v108 : Value) w109 =>
                TyP (.int .i64) v108 fun (n110 : Int) =>
                R (.bool (n110 == 0)) w109)
                (R (.bool false) w106)))))
def an_law03_CodecOwn : Ann := ⟨[(31, []), (9, []), (4, [])], [(10, [(62, (.int .i64))]), (15, [(74, (.int .i64))]), (23, [(96, (.int .i64))]), (34, [(132, (.int .i64))])], []⟩
theorem e_law03_CodecOwn (R : Value → World → Prop) (x0 : Sl) (x1 : Sl) (w : World) : denF P an_law03_CodecOwn Try.f5 [x0.v, x1.v] w R = S_law03_CodecOwn R x0 x1 w := by kernel_rfl
theorem c_law03_CodecOwn {R : Value → World → Prop} {x0 : Sl} {x1 : Sl} {w : World} (h : S_law03_CodecOwn R x0 x1 w) : CallP P F_law03_CodecOwn [x0.v, x1.v] w R := calls_of_denF (an := an_law03_CodecOwn) Try.func5 (by rw [e_law03_CodecOwn]; exact h)


/-- penstock/penstocklaw03.CodecTakes -/
def S_law03_CodecTakes (R : Value → World → Prop) (x0 : Sl) (x1 : Sl) (w : World) : Prop :=
 CallP P F_law03_awake [] w fun (v0 : Value) w1 =>
 TyP .bool v0 fun (b2 : Bool) =>
  ifB (!b2)
   (R (.bool false) w1)
   (RunK .sl P (Instr.buildSlice T_sl_uint8 0 #[]) w1 fun (s3 : Sl) w4 =>
    RunK .sl P (Builtin.append_ #[T_sl_uint8, T_sl_uint8] T_sl_uint8 #[s3.v, x0.v]) w4 fun (s5 : Sl) w6 =>
     CallP P F_codec_NewReader [s5.v] w6 fun (v7 : Value) w8 =>
      TyP .ptr v7 fun (p9 : Option Addr) =>
       RunK .addr P (Instr.box T_penstockref03_Reader (.agg #[x0.v, (.int .i64 0), (.int .i64 0)])) w8 fun (a10 : Addr) w11 =>
        LoopP (T := Int × Unit) (some (0, ())) w11 fun next12 t13 w14 =>
         ifB (decide (t13.fst < (↑x1.len : Int)))
          (RunQ .addr P (Instr.indexAt T_sl_int x1.v (.int .i64 t13.fst)) w14 fun (a15 : Addr) =>
           RunQ (.int .i64) P (Instr.loadAt T_int (.pointer (some a15))) w14 fun (n16 : Int) =>
            CallP P F_law03_take [(.pointer p9), (.pointer (some a10)), (.int .i64 n16)] w14 fun (v17 : Value) w18 =>
             TyP .bool v17 fun (b19 : Bool) =>
              ifB (!b19)
               (R (.bool false) w18)
               (CallP P F_codec_Reader_State [(.pointer p9)] w18 fun (v20 : Value) w21 =>
                TupP [(.int .i64), (.int .i64), (.int .i64)] v20 fun (t22 : Int × Int × Int × Unit) =>
                RunQ (.int .i64) P (Instr.loadAt T_int (.pointer (some (Go.Addr.add a10 1)))) w21 fun (n23 : Int) =>
                ifB (t22.fst != n23)
                (R (.bool false) w21)
                (RunQ (.int .i64) P (Instr.loadAt T_int (.pointer (some (Go.Addr.add a10 1)))) w21 fun (n24 : Int) =>
                ifB (t22.snd.fst != IntKind.i64.wrap ((↑x0.len : Int) - n24))
                (R (.bool false) w21)
                (RunQ (.int .i64) P (Instr.loadAt T_int (.pointer (some (Go.Addr.add a10 2)))) w21 fun (n25 : Int) =>
                ifB (t22.snd.snd.fst != n25)
                (R (.bool false) w21)
                (CallP P F_codec_Reader_End [(.pointer p9)] w21 fun (v26 : Value) w27 =>
                TyP (.int .i64) v26 fun (n28 : Int) =>
                CallP P F_ref03_Reader_End [(.pointer (some a10))] w27 fun (v29 : Value) w30 =>
                TyP (.int .i64) v29 fun (n31 : Int) =>
                ifB (n28 != n31)
                (R (.bool false) w30)
                (next12 (some ((IntKind.i64.wrap (t13.fst + 1)), ())) w30))))))
          (CallP P F_ref03_Same [x0.v, s5.v] w14 fun (v32 : Value) w33 =>
           TyP .bool v32 fun (b34 : Bool) =>
            R (.bool b34) w33))
def an_law03_CodecTakes : Ann := ⟨[], [(6, [(25, (.int .i64))])], []⟩
theorem e_law03_CodecTakes (R : Value → World → Prop) (x0 : Sl) (x1 : Sl) (w : World) : denF P an_law03_CodecTakes Try.f6 [x0.v, x1.v] w R = S_law03_CodecTakes R x0 x1 w := by kernel_rfl
theorem c_law03_CodecTakes {R : Value → World → Prop} {x0 : Sl} {x1 : Sl} {w : World} (h : S_law03_CodecTakes R x0 x1 w) : CallP P F_law03_CodecTakes [x0.v, x1.v] w R := calls_of_denF (an := an_law03_CodecTakes) Try.func6 (by rw [e_law03_CodecTakes]; exact h)


/-- penstock/penstocklaw03.CodecBack -/
def S_law03_CodecBack (R : Value → World → Prop) (x0 : Sl) (x1 : Sl) (w : World) : Prop :=
 CallP P F_codec_NewWriter [] w fun (v0 : Value) w1 =>
 TyP .ptr v0 fun (p2 : Option Addr) =>
  JoinP (T := Unit) (fun J3 =>
   CallP P F_law03_awake [] w1 fun (v6 : Value) w7 =>
    TyP .bool v6 fun (b8 : Bool) =>
     ifB (!b8)
      (R (.bool false) w7)
      (ifB (Option.isNone p2)
       (R (.bool false) w7)
       (J3 (some ()) w7)))
   fun t4 w5 =>
   LoopP (T := Sl × Int × Unit) (some (⟨none, 0, 0⟩, (0, ()))) w5 fun next9 t10 w11 =>
    ifB (decide (t10.snd.fst < (↑x0.len : Int)))
     (RunQ .addr P (Instr.indexAt T_sl_penstocklaw03_Op x0.v (.int .i64 t10.snd.fst)) w11 fun (a12 : Addr) =>
      RunQ .val P (Instr.loadAt T_penstocklaw03_Op (.pointer (some a12))) w11 fun (v13 : Value) =>
       RunK .addr P (Instr.alloc T_penstocklaw03_Op true (.tuple #[])) w11 fun (a14 : Addr) w15 =>
        StoreP P T_penstocklaw03_Op (.pointer (some a14)) v13 w15 fun w16 =>
         JoinP (T := Unit) (fun J17 =>
          RunQ .sl P (Instr.loadAt T_sl_uint8 (.pointer (some (Go.Addr.add a14 4)))) w16 fun (s20 : Sl) =>
           ifB (decide ((↑s20.len : Int) > 4096))
            (R (.bool true) w16)
            (RunQ .sl P (Instr.loadAt T_sl_int (.pointer (some (Go.Addr.add a14 5)))) w16 fun (s21 : Sl) =>
             ifB (decide ((↑s21.len : Int) > 4096))
              (R (.bool true) w16)
              (J17 (some ()) w16)))
          fun t18 w19 =>
          RunQ .val P (Instr.loadAt T_penstocklaw03_Op (.pointer (some a14))) w19 fun (v22 : Value) =>
           CallP P F_law03_lay [(.pointer p2), t10.fst.v, v22] w19 fun (v23 : Value) w24 =>
            TyP .sl v23 fun (s25 : Sl) =>
             next9 (some (s25, ((IntKind.i64.wrap (t10.snd.fst + 1)), ()))) w24)
     (CallP P F_codec_Writer_Out [(.pointer p2)] w11 fun (v26 : Value) w27 =>
      TupP [.sl, (.int .i64)] v26 fun (t28 : Sl × Int × Unit) =>
       RunK .sl P (Builtin.append_ #[T_sl_uint8, T_sl_uint8] T_sl_uint8 #[t28.fst.v, x1.v]) w27 fun (s29 : Sl) w30 =>
        CallP P F_codec_NewReader [s29.v] w30 fun (v31 : Value) w32 =>
         TyP .ptr v31 fun (p33 : Option Addr) =>
          RunK .sl P (Builtin.append_ #[T_sl_uint8, T_sl_uint8] T_sl_uint8 #[t10.fst.v, x1.v]) w32 fun (s34 : Sl) w35 =>
           RunK .addr P (Instr.box T_penstockref03_Reader (.agg #[s34.v, (.int .i64 0), (.int .i64 0)])) w35 fun (a36 : Addr) w37 =>
            LoopP (T := Int × Unit) (some (0, ())) w37 fun next38 t39 w40 =>
             ifB (decide (t39.fst < (↑x0.len : Int)))
              (RunQ .addr P (Instr.indexAt T_sl_penstocklaw03_Op x0.v (.int .i64 t39.fst)) w40 fun (a41 : Addr) =>
               RunQ .val P (Instr.loadAt T_penstocklaw03_Op (.pointer (some a41))) w40 fun (v42 : Value) =>
                RunK .addr P (Instr.alloc T_penstocklaw03_Op true (.tuple #[])) w40 fun (a43 : Addr) w44 =>
                StoreP P T_penstocklaw03_Op (.pointer (some a43)) v42 w44 fun w45 =>
                RunQ (.int .i64) P (Instr.loadAt T_int (.pointer (some (Go.Addr.add a43 0)))) w45 fun (n46 : Int) =>
                CallP P F_law03_take [(.pointer p33), (.pointer (some a36)), (.int .i64 n46)] w45 fun (v47 : Value) w48 =>
                TyP .bool v47 fun (b49 : Bool) =>
                ifB (!b49)
                (R (.bool false) w48)
                (next38 (some ((IntKind.i64.wrap (t39.fst + 1)), ())) w48))
              (CallP P F_codec_Reader_State [(.pointer p33)] w40 fun (v50 : Value) w51 =>
               TupP [(.int .i64), (.int .i64), (.int .i64)] v50 fun (t52 : Int × Int × Int × Unit) =>
                ifB (t28.snd.fst == 0)
                (ifB (t52.snd.snd.fst == 0)
                (RunQ (.int .i64) P (Instr.loadAt T_int (.pointer (some (Go.Addr.add a36 2)))) w51 fun (n53 : Int) =>
                ifB (n53 == 0)
                (ifB (t52.fst == (↑t10.fst.len : Int))
                (ifB (t52.snd.fst == (↑x1.len : Int))
                (CallP P F_codec_Reader_End [(.pointer p33)] w51 fun (v54 : Value) w55 =>
                TyP (.int .i64) v54 fun (n56 : Int) =>
                R (.bool ((n56 == 0) == ((↑x1.len : Int) == 0))) w55)
                (R (.bool false) w51))
                (R (.bool false) w51))
                (R (.bool false) w51))
                (R (.bool false) w51))
                (R (.bool false) w51)))
def an_law03_CodecBack : Ann := ⟨[(10, []), (4, [])], [(6, [(6, .sl), (27, (.int .i64))]), (15, [(62, (.int .i64))])], []⟩
theorem e_law03_CodecBack (R : Value → World → Prop) (x0 : Sl) (x1 : Sl) (w : World) : denF P an_law03_CodecBack Try.f7 [x0.v, x1.v] w R = S_law03_CodecBack R x0 x1 w := by kernel_rfl
theorem c_law03_CodecBack {R : Value → World → Prop} {x0 : Sl} {x1 : Sl} {w : World} (h : S_law03_CodecBack R x0 x1 w) : CallP P F_law03_CodecBack [x0.v, x1.v] w R := calls_of_denF (an := an_law03_CodecBack) Try.func7 (by rw [e_law03_CodecBack]; exact h)


/-- penstock/penstocklaw03.CodecCut -/
def S_law03_CodecCut (R : Value → World → Prop) (x0 : Sl) (x1 : Int) (w : World) : Prop :=
 CallP P F_codec_NewWriter [] w fun (v0 : Value) w1 =>
 TyP .ptr v0 fun (p2 : Option Addr) =>
  JoinP (T := Unit) (fun J3 =>
   CallP P F_law03_awake [] w1 fun (v6 : Value) w7 =>
    TyP .bool v6 fun (b8 : Bool) =>
     ifB (!b8)
      (R (.bool false) w7)
      (ifB (Option.isNone p2)
       (R (.bool false) w7)
       (J3 (some ()) w7)))
   fun t4 w5 =>
   LoopP (T := Sl × Int × Unit) (some (⟨none, 0, 0⟩, (0, ()))) w5 fun next9 t10 w11 =>
    ifB (decide (t10.snd.fst < (↑x0.len : Int)))
     (RunQ .addr P (Instr.indexAt T_sl_penstocklaw03_Op x0.v (.int .i64 t10.snd.fst)) w11 fun (a12 : Addr) =>
      RunQ .val P (Instr.loadAt T_penstocklaw03_Op (.pointer (some a12))) w11 fun (v13 : Value) =>
       RunK .addr P (Instr.alloc T_penstocklaw03_Op true (.tuple #[])) w11 fun (a14 : Addr) w15 =>
        StoreP P T_penstocklaw03_Op (.pointer (some a14)) v13 w15 fun w16 =>
         JoinP (T := Unit) (fun J17 =>
          RunQ .sl P (Instr.loadAt T_sl_uint8 (.pointer (some (Go.Addr.add a14 4)))) w16 fun (s20 : Sl) =>
           ifB (decide ((↑s20.len : Int) > 4096))
            (R (.bool true) w16)
            (RunQ .sl P (Instr.loadAt T_sl_int (.pointer (some (Go.Addr.add a14 5)))) w16 fun (s21 : Sl) =>
             ifB (decide ((↑s21.len : Int) > 4096))
              (R (.bool true) w16)
              (J17 (some ()) w16)))
          fun t18 w19 =>
          RunQ .val P (Instr.loadAt T_penstocklaw03_Op (.pointer (some a14))) w19 fun (v22 : Value) =>
           CallP P F_law03_lay [(.pointer p2), t10.fst.v, v22] w19 fun (v23 : Value) w24 =>
            TyP .sl v23 fun (s25 : Sl) =>
             next9 (some (s25, ((IntKind.i64.wrap (t10.snd.fst + 1)), ()))) w24)
     (CallP P F_codec_Writer_Out [(.pointer p2)] w11 fun (v26 : Value) w27 =>
      TupP [.sl, (.int .i64)] v26 fun (t28 : Sl × Int × Unit) =>
       JoinP (T := Unit) (fun J29 =>
        ifB (t28.snd.fst != 0)
         (ifB (t28.snd.fst == 0)
          (R (.bool ((↑t10.fst.len : Int) == 0)) w27)
          (R (.bool false) w27))
         (ifB ((↑t28.fst.len : Int) == 0)
          (ifB (t28.snd.fst == 0)
           (R (.bool ((↑t10.fst.len : Int) == 0)) w27)
           (R (.bool false) w27))
          (J29 (some ()) w27)))
        fun t30 w31 =>
        RunK (.int .i64) P (do (eqGuard .rem T_int (.tmp 0) (.tmp 0) (.int .i64 (IntKind.i64.wrap x1)) (.int .i64 ((↑t28.fst.len : Int)))); (binOp .rem T_int (.int .i64 (IntKind.i64.wrap x1)) (.int .i64 ((↑t28.fst.len : Int))))) w31 fun (n32 : Int) w33 =>
         ∃ S34 : World → Prop, (S34 w33.drew) ∧
           HRun S34 .sl P (Instr.sliceAt T_sl_uint8 t28.fst.v none (some (.int .i64 n32)) none) fun (s35 : Sl) =>
            HRun S34 .sl P (Instr.sliceAt T_sl_uint8 t10.fst.v none (some (.int .i64 n32)) none) fun (s36 : Sl) =>
             (CallP P F_codec_NewReader [s35.v] w33.drew fun (v37 : Value) w38 =>
               TyP .ptr v37 fun (p39 : Option Addr) =>
                (S34 w38) ∧
                RunK .addr P (Instr.box T_penstockref03_Reader (.agg #[s36.v, (.int .i64 0), (.int .i64 0)])) w38 fun (a40 : Addr) w41 =>
                (S34 w41) ∧
                LoopP (T := Int × Unit) (some (0, ())) w41 fun next42 t43 w44 =>
                ifB (decide (t43.fst < (↑x0.len : Int)))
                (RunQ .addr P (Instr.indexAt T_sl_penstocklaw03_Op x0.v (.int .i64 t43.fst)) w44 fun (a45 : Addr) =>
                RunQ .val P (Instr.loadAt T_penstocklaw03_Op (.pointer (some a45))) w44 fun (v46 : Value) =>
                RunK .addr P (Instr.alloc T_penstocklaw03_Op true (.tuple #[])) w44 fun (a47 : Addr) w48 =>
                StoreP P T_penstocklaw03_Op (.pointer (some a47)) v46 w48 fun w49 =>
                RunQ (.int .i64) P (Instr.loadAt T_int (.pointer (some (Go.Addr.add a47 0)))) w49 fun (n50 : Int) =>
                CallP P F_law03_take [(.pointer p39), (.pointer (some a40)), (.int .i64 n50)] w49 fun (v51 : Value) w52 =>
                TyP .bool v51 fun (b53 : Bool) =>
                ifB (!b53)
                (R (.bool false) w52)
                (next42 (some ((IntKind.i64.wrap (t43.fst + 1)), ())) w52))
                (CallP P F_codec_Reader_State [(.pointer p39)] w44 fun (v54 : Value) w55 =>
                TupP [(.int .i64), (.int .i64), (.int .i64)] v54 fun (t56 : Int × Int × Int × Unit) =>
                ifB (t56.snd.snd.fst == 0)
                (R (.bool false) w55)
                (CallP P F_codec_Reader_State [(.pointer p39)] w55 fun (v57 : Value) w58 =>
                TupP [(.int .i64), (.int .i64), (.int .i64)] v57 fun (t59 : Int × Int × Int × Unit) =>
                CallP P F_codec_Reader_Uint [(.pointer p39)] w58 fun (v60 : Value) w61 =>
                TyP (.int .u64) v60 fun (n62 : Int) =>
                ifB (n62 == 0)
                (CallP P F_codec_Reader_Int [(.pointer p39)] w61 fun (v63 : Value) w64 =>
                TyP (.int .i64) v63 fun (n65 : Int) =>
                ifB (n65 == 0)
                (CallP P F_codec_Reader_Flag [(.pointer p39)] w64 fun (v66 : Value) w67 =>
                TyP .bool v66 fun (b68 : Bool) =>
                ifB (!b68)
                (CallP P F_codec_Reader_Fixed [(.pointer p39)] w67 fun (v69 : Value) w70 =>
                TyP (.int .u32) v69 fun (n71 : Int) =>
                ifB (n71 == 0)
                (CallP P F_codec_Reader_Bytes [(.pointer p39)] w70 fun (v72 : Value) w73 =>
                TyP .sl v72 fun (s74 : Sl) =>
                ifB ((↑s74.len : Int) == 0)
                (CallP P F_codec_Reader_Ints [(.pointer p39)] w73 fun (v75 : Value) w76 =>
                TyP .sl v75 fun (s77 : Sl) =>
                ifB ((↑s77.len : Int) == 0)
                (ifB (t56.fst == t59.fst)
                (ifB (t56.snd.snd.fst == t59.snd.snd.fst)
                (CallP P F_codec_Reader_End [(.pointer p39)] w76 fun (v78 : Value) w79 =>
                TyP (.int .i64) v78 fun (n80 : Int) =>
                R (.bool (n80 == t56.snd.snd.fst)) w79)
                (R (.bool false) w76))
                (R (.bool false) w76))
                (R (.bool false) w76))
                (R (.bool false) w73))
                (R (.bool false) w70))
                (R (.bool false) w67))
                (R (.bool false) w64))
                (R (.bool false) w61)))) ∧
              (RunK .addr P (Instr.box T_penstockref03_Reader (.agg #[s36.v, (.int .i64 0), (.int .i64 0)])) w33.drew fun (a81 : Addr) w82 =>
                (S34 w82) ∧
                CallP P F_codec_NewReader [s35.v] w82 fun (v83 : Value) w84 =>
                TyP .ptr v83 fun (p85 : Option Addr) =>
                (S34 w84) ∧
                LoopP (T := Int × Unit) (some (0, ())) w84 fun next86 t87 w88 =>
                ifB (decide (t87.fst < (↑x0.len : Int)))
                (RunQ .addr P (Instr.indexAt T_sl_penstocklaw03_Op x0.v (.int .i64 t87.fst)) w88 fun (a89 : Addr) =>
                RunQ .val P (Instr.loadAt T_penstocklaw03_Op (.pointer (some a89))) w88 fun (v90 : Value) =>
                RunK .addr P (Instr.alloc T_penstocklaw03_Op true (.tuple #[])) w88 fun (a91 : Addr) w92 =>
                StoreP P T_penstocklaw03_Op (.pointer (some a91)) v90 w92 fun w93 =>
                RunQ (.int .i64) P (Instr.loadAt T_int (.pointer (some (Go.Addr.add a91 0)))) w93 fun (n94 : Int) =>
                CallP P F_law03_take [(.pointer p85), (.pointer (some a81)), (.int .i64 n94)] w93 fun (v95 : Value) w96 =>
                TyP .bool v95 fun (b97 : Bool) =>
                ifB (!b97)
                (R (.bool false) w96)
                (next86 (some ((IntKind.i64.wrap (t87.fst + 1)), ())) w96))
                (CallP P F_codec_Reader_State [(.pointer p85)] w88 fun (v98 : Value) w99 =>
                TupP [(.int .i64), (.int .i64), (.int .i64)] v98 fun (t100 : Int × Int × Int × Unit) =>
                ifB (t100.snd.snd.fst == 0)
                (R (.bool false) w99)
                (CallP P F_codec_Reader_State [(.pointer p85)] w99 fun (v101 : Value) w102 =>
                TupP [(.int .i64), (.int .i64), (.int .i64)] v101 fun (t103 : Int × Int × Int × Unit) =>
                CallP P F_codec_Reader_Uint [(.pointer p85)] w102 fun (v104 : Value) w105 =>
                TyP (.int .u64) v104 fun (n106 : Int) =>
                ifB (n106 == 0)
                (CallP P F_codec_Reader_Int [(.pointer p85)] w105 fun (v107 : Value) w108 =>
                TyP (.int .i64) v107 fun (n109 : Int) =>
                ifB (n109 == 0)
                (CallP P F_codec_Reader_Flag [(.pointer p85)] w108 fun (v110 : Value) w111 =>
                TyP .bool v110 fun (b112 : Bool) =>
                ifB (!b112)
                (CallP P F_codec_Reader_Fixed [(.pointer p85)] w111 fun (v113 : Value) w114 =>
                TyP (.int .u32) v113 fun (n115 : Int) =>
                ifB (n115 == 0)
                (CallP P F_codec_Reader_Bytes [(.pointer p85)] w114 fun (v116 : Value) w117 =>
                TyP .sl v116 fun (s118 : Sl) =>
                ifB ((↑s118.len : Int) == 0)
                (CallP P F_codec_Reader_Ints [(.pointer p85)] w117 fun (v119 : Value) w120 =>
                TyP .sl v119 fun (s121 : Sl) =>
                ifB ((↑s121.len : Int) == 0)
                (ifB (t100.fst == t103.fst)
                (ifB (t100.snd.snd.fst == t103.snd.snd.fst)
                (CallP P F_codec_Reader_End [(.pointer p85)] w120 fun (v122 : Value) w123 =>
                TyP (.int .i64) v122 fun (n124 : Int) =>
                R (.bool (n124 == t100.snd.snd.fst)) w123)
                (R (.bool false) w120))
                (R (.bool false) w120))
                (R (.bool false) w120))
                (R (.bool false) w117))
                (R (.bool false) w114))
                (R (.bool false) w111))
                (R (.bool false) w108))
                (R (.bool false) w105)))) ∧
               True)
def an_law03_CodecCut : Ann := ⟨[(10, []), (15, []), (4, [])], [(6, [(6, .sl), (31, (.int .i64))]), (18, [(85, (.int .i64))])], []⟩
theorem e_law03_CodecCut (R : Value → World → Prop) (x0 : Sl) (x1 : Int) (w : World) : denF P an_law03_CodecCut Try.f8 [x0.v, .int .u16 x1] w R = S_law03_CodecCut R x0 x1 w := by kernel_rfl
theorem c_law03_CodecCut {R : Value → World → Prop} {x0 : Sl} {x1 : Int} {w : World} (h : S_law03_CodecCut R x0 x1 w) : CallP P F_law03_CodecCut [x0.v, .int .u16 x1] w R := calls_of_denF (an := an_law03_CodecCut) Try.func8 (by rw [e_law03_CodecCut]; exact h)


/-- penstock/penstocklaw03.CodecNone -/
def S_law03_CodecNone (R : Value → World → Prop) (x0 : Value) (w : World) : Prop :=
 RunK .addr P (Instr.box T_penstocklaw03_Op x0) w fun (a0 : Addr) w1 =>
 RunQ .val P (Instr.loadAt T_penstocklaw03_Op (.pointer (some a0))) w1 fun (v2 : Value) =>
  CallP P F_law03_lay [(.pointer none), (.slice none 0 0), v2] w1 fun (v3 : Value) w4 =>
   TyP .sl v3 fun (s5 : Sl) =>
    CallP P F_codec_Writer_Out [(.pointer none)] w4 fun (v6 : Value) w7 =>
     TupP [.sl, (.int .i64)] v6 fun (t8 : Sl × Int × Unit) =>
      CallP P F_codec_Reader_State [(.pointer none)] w7 fun (v9 : Value) w10 =>
       TupP [(.int .i64), (.int .i64), (.int .i64)] v9 fun (t11 : Int × Int × Int × Unit) =>
        CallP P F_law03_awake [] w10 fun (v12 : Value) w13 =>
         TyP .bool v12 fun (b14 : Bool) =>
          ifB b14
           (ifB ((↑t8.fst.len : Int) == 0)
            (ifB (t8.snd.fst == 5)
             (ifB (t11.fst == 0)
              (ifB (t11.snd.fst == 0)
               (ifB (t11.snd.snd.fst == 5)
                (CallP P F_codec_Reader_End [(.pointer none)] w13 fun (v15 : Value) w16 =>
                TyP (.int .i64) v15 fun (n17 : Int) =>
                ifB (n17 == 5)
                (CallP P F_codec_Reader_Uint [(.pointer none)] w16 fun (v18 : Value) w19 =>
                TyP (.int .u64) v18 fun (n20 : Int) =>
                ifB (n20 == 0)
                (CallP P F_codec_Reader_Int [(.pointer none)] w19 fun (v21 : Value) w22 =>
                TyP (.int .i64) v21 fun (n23 : Int) =>
                ifB (n23 == 0)
                (CallP P F_codec_Reader_Flag [(.pointer none)] w22 fun (v24 : Value) w25 =>
                TyP .bool v24 fun (b26 : Bool) =>
                ifB (!b26)
                (CallP P F_codec_Reader_Fixed [(.pointer none)] w25 fun (v27 : Value) w28 =>
                TyP (.int .u32) v27 fun (n29 : Int) =>
                ifB (n29 == 0)
                (CallP P F_codec_Reader_Bytes [(.pointer none)] w28 fun (v30 : Value) w31 =>
                TyP .sl v30 fun (s32 : Sl) =>
                ifB ((↑s32.len : Int) == 0)
                (CallP P F_codec_Reader_Ints [(.pointer none)] w31 fun (v33 : Value) w34 =>
                TyP .sl v33 fun (s35 : Sl) =>
                R (.bool ((↑s35.len : Int) == 0)) w34)
                (R (.bool false) w31))
                (R (.bool false) w28))
                (R (.bool false) w25))
                (R (.bool false) w22))
                (R (.bool false) w19))
                (R (.bool false) w16))
                (R (.bool false) w13))
               (R (.bool false) w13))
              (R (.bool false) w13))
             (R (.bool false) w13))
            (R (.bool false) w13))
           (R (.bool false) w13)
def an_law03_CodecNone : Ann := ⟨[], [], []⟩
theorem e_law03_CodecNone (R : Value → World → Prop) (x0 : Value) (w : World) : denF P an_law03_CodecNone Try.f9 [x0] w R = S_law03_CodecNone R x0 w := by kernel_rfl
theorem c_law03_CodecNone {R : Value → World → Prop} {x0 : Value} {w : World} (h : S_law03_CodecNone R x0 w) : CallP P F_law03_CodecNone [x0] w R := calls_of_denF (an := an_law03_CodecNone) Try.func9 (by rw [e_law03_CodecNone]; exact h)

end Go.Proofs.Ytcfgbboibgjlcaa
