/- The functions of the program as predicates over worlds, written by a program of mine (PkPrint); each is held against the code by the kernel. -/
import Derived.Test.YtokogdigfohbeaaFA
namespace Go.Proofs.Ytokogdigfohbeaa
open Go Go.Pk
/-- penstock/penstockref13.DocEncode -/
def S_ref13_DocEncode (R : Value → World → Prop) (x0 : Value) (w : World) : Prop :=
 RunK .addr P (Instr.box T_api_Cmd x0) w fun (a0 : Addr) w1 =>
 JoinP (T := Unit) (fun J2 =>
  RunQ (.int .i64) P (Instr.loadAt T_int (.pointer (some (Go.Addr.add a0 0)))) w1 fun (n5 : Int) =>
   ifB (decide (n5 < 1))
    (R (.tuple #[(.slice none 0 0), (.int .i64 1)]) w1)
    (RunQ (.int .i64) P (Instr.loadAt T_int (.pointer (some (Go.Addr.add a0 0)))) w1 fun (n6 : Int) =>
     ifB (decide (n6 > 5))
      (R (.tuple #[(.slice none 0 0), (.int .i64 1)]) w1)
      (RunQ .sl P (Instr.loadAt T_sl_int (.pointer (some (Go.Addr.add a0 5)))) w1 fun (s7 : Sl) =>
       ifB (decide ((↑s7.len : Int) > 5))
        (R (.tuple #[(.slice none 0 0), (.int .i64 1)]) w1)
        (J2 (some ()) w1))))
  fun t3 w4 =>
  RunQ (.int .i64) P (Instr.loadAt T_int (.pointer (some (Go.Addr.add a0 0)))) w4 fun (n8 : Int) =>
   RunQ (.int .i64) P (Instr.loadAt T_int (.pointer (some (Go.Addr.add a0 1)))) w4 fun (n9 : Int) =>
    RunQ (.int .i64) P (Instr.loadAt T_int (.pointer (some (Go.Addr.add a0 2)))) w4 fun (n10 : Int) =>
     RunQ (.int .i64) P (Instr.loadAt T_int (.pointer (some (Go.Addr.add a0 3)))) w4 fun (n11 : Int) =>
      RunQ (.int .i64) P (Instr.loadAt T_int (.pointer (some (Go.Addr.add a0 4)))) w4 fun (n12 : Int) =>
       RunK .sl P (Instr.buildSlice T_sl_int 5 #[(0, (.int .i64 n8)), (1, (.int .i64 n9)), (2, (.int .i64 n10)), (3, (.int .i64 n11)), (4, (.int .i64 n12))]) w4 fun (s13 : Sl) w14 =>
        LoopP (T := Sl × Int × Unit) (some (⟨none, 0, 0⟩, (0, ()))) w14 fun next15 t16 w17 =>
         ifB (decide (t16.snd.fst < (↑s13.len : Int)))
          (RunQ .addr P (Instr.indexAt T_sl_int s13.v (.int .i64 t16.snd.fst)) w17 fun (a18 : Addr) =>
           RunQ (.int .i64) P (Instr.loadAt T_int (.pointer (some a18))) w17 fun (n19 : Int) =>
            CallP P F_ref03_Int [(.int .i64 n19)] w17 fun (v20 : Value) w21 =>
             TyP .sl v20 fun (s22 : Sl) =>
              RunK .sl P (Builtin.append_ #[T_sl_uint8, T_sl_uint8] T_sl_uint8 #[t16.fst.v, s22.v]) w21 fun (s23 : Sl) w24 =>
               next15 (some (s23, ((IntKind.i64.wrap (t16.snd.fst + 1)), ()))) w24)
          (RunQ .sl P (Instr.loadAt T_sl_int (.pointer (some (Go.Addr.add a0 5)))) w17 fun (s25 : Sl) =>
           CallP P F_ref03_Ints [s25.v] w17 fun (v26 : Value) w27 =>
            TyP .sl v26 fun (s28 : Sl) =>
             RunK .sl P (Builtin.append_ #[T_sl_uint8, T_sl_uint8] T_sl_uint8 #[t16.fst.v, s28.v]) w27 fun (s29 : Sl) w30 =>
              R (.tuple #[s29.v, (.int .i64 0)]) w30)
def an_ref13_DocEncode : Ann := ⟨[(3, [])], [(5, [(4, .sl), (33, (.int .i64))])], []⟩
theorem e_ref13_DocEncode (R : Value → World → Prop) (x0 : Value) (w : World) : denF P an_ref13_DocEncode Try.f23 [x0] w R = S_ref13_DocEncode R x0 w := by kernel_rfl
theorem c_ref13_DocEncode {R : Value → World → Prop} {x0 : Value} {w : World} (h : S_ref13_DocEncode R x0 w) : CallP P F_ref13_DocEncode [x0] w R := calls_of_denF (an := an_ref13_DocEncode) Try.func23 (by rw [e_ref13_DocEncode]; exact h)


/-- penstock/penstockref07.DocEncode -/
def S_ref07_DocEncode (R : Value → World → Prop) (x0 : Value) (w : World) : Prop :=
 RunK .addr P (Instr.box T_api_Batch x0) w fun (a0 : Addr) w1 =>
 RunQ .val P (Instr.loadAt T_api_Batch (.pointer (some a0))) w1 fun (v2 : Value) =>
  CallP P F_ref07_DocCheck [v2] w1 fun (v3 : Value) w4 =>
   TyP (.int .i64) v3 fun (n5 : Int) =>
    ifB (n5 != 0)
     (R (.tuple #[(.slice none 0 0), (.int .i64 n5)]) w4)
     (RunQ (.int .i64) P (Instr.loadAt T_int (.pointer (some (Go.Addr.add a0 0)))) w4 fun (n6 : Int) =>
      CallP P F_ref03_Int [(.int .i64 n6)] w4 fun (v7 : Value) w8 =>
       TyP .sl v7 fun (s9 : Sl) =>
        RunQ (.int .i64) P (Instr.loadAt T_int (.pointer (some (Go.Addr.add a0 1)))) w8 fun (n10 : Int) =>
         CallP P F_ref03_Int [(.int .i64 n10)] w8 fun (v11 : Value) w12 =>
          TyP .sl v11 fun (s13 : Sl) =>
           RunK .sl P (Builtin.append_ #[T_sl_uint8, T_sl_uint8] T_sl_uint8 #[s9.v, s13.v]) w12 fun (s14 : Sl) w15 =>
            RunQ (.int .u64) P (Instr.loadAt T_uint64 (.pointer (some (Go.Addr.add a0 2)))) w15 fun (n16 : Int) =>
             CallP P F_ref03_Uint [(.int .u64 n16)] w15 fun (v17 : Value) w18 =>
              TyP .sl v17 fun (s19 : Sl) =>
               RunK .sl P (Builtin.append_ #[T_sl_uint8, T_sl_uint8] T_sl_uint8 #[s14.v, s19.v]) w18 fun (s20 : Sl) w21 =>
                RunQ (.int .i64) P (Instr.loadAt T_int (.pointer (some (Go.Addr.add a0 3)))) w21 fun (n22 : Int) =>
                CallP P F_ref03_Int [(.int .i64 n22)] w21 fun (v23 : Value) w24 =>
                TyP .sl v23 fun (s25 : Sl) =>
                RunK .sl P (Builtin.append_ #[T_sl_uint8, T_sl_uint8] T_sl_uint8 #[s20.v, s25.v]) w24 fun (s26 : Sl) w27 =>
                RunQ (.int .i64) P (Instr.loadAt T_int (.pointer (some (Go.Addr.add a0 4)))) w27 fun (n28 : Int) =>
                CallP P F_ref03_Int [(.int .i64 n28)] w27 fun (v29 : Value) w30 =>
                TyP .sl v29 fun (s31 : Sl) =>
                RunK .sl P (Builtin.append_ #[T_sl_uint8, T_sl_uint8] T_sl_uint8 #[s26.v, s31.v]) w30 fun (s32 : Sl) w33 =>
                RunQ .bool P (Instr.loadAt T_bool (.pointer (some (Go.Addr.add a0 5)))) w33 fun (b34 : Bool) =>
                CallP P F_ref03_Flag [(.bool b34)] w33 fun (v35 : Value) w36 =>
                TyP .sl v35 fun (s37 : Sl) =>
                RunK .sl P (Builtin.append_ #[T_sl_uint8, T_sl_uint8] T_sl_uint8 #[s32.v, s37.v]) w36 fun (s38 : Sl) w39 =>
                RunQ .bool P (Instr.loadAt T_bool (.pointer (some (Go.Addr.add a0 6)))) w39 fun (b40 : Bool) =>
                CallP P F_ref03_Flag [(.bool b40)] w39 fun (v41 : Value) w42 =>
                TyP .sl v41 fun (s43 : Sl) =>
                RunK .sl P (Builtin.append_ #[T_sl_uint8, T_sl_uint8] T_sl_uint8 #[s38.v, s43.v]) w42 fun (s44 : Sl) w45 =>
                RunQ .bool P (Instr.loadAt T_bool (.pointer (some (Go.Addr.add a0 7)))) w45 fun (b46 : Bool) =>
                CallP P F_ref03_Flag [(.bool b46)] w45 fun (v47 : Value) w48 =>
                TyP .sl v47 fun (s49 : Sl) =>
                RunK .sl P (Builtin.append_ #[T_sl_uint8, T_sl_uint8] T_sl_uint8 #[s44.v, s49.v]) w48 fun (s50 : Sl) w51 =>
                RunQ .sl P (Instr.loadAt T_sl_sl_uint8 (.pointer (some (Go.Addr.add a0 8)))) w51 fun (s52 : Sl) =>
                CallP P F_ref03_Uint [(.int .u64 (IntKind.u64.wrap (↑s52.len : Int)))] w51 fun (v53 : Value) w54 =>
                TyP .sl v53 fun (s55 : Sl) =>
                RunK .sl P (Builtin.append_ #[T_sl_uint8, T_sl_uint8] T_sl_uint8 #[s50.v, s55.v]) w54 fun (s56 : Sl) w57 =>
                LoopP (T := Sl × Int × Unit) (some (s56, (0, ()))) w57 fun next58 t59 w60 =>
                RunQ .sl P (Instr.loadAt T_sl_sl_uint8 (.pointer (some (Go.Addr.add a0 8)))) w60 fun (s61 : Sl) =>
                ifB (decide (t59.snd.fst < (↑s61.len : Int)))
                (RunQ .sl P (Instr.loadAt T_sl_sl_uint8 (.pointer (some (Go.Addr.add a0 8)))) w60 fun (s62 : Sl) =>
                RunQ .addr P (Instr.indexAt T_sl_sl_uint8 s62.v (.int .i64 t59.snd.fst)) w60 fun (a63 : Addr) =>
                RunQ .sl P (Instr.loadAt T_sl_uint8 (.pointer (some a63))) w60 fun (s64 : Sl) =>
                CallP P F_ref03_Bytes [s64.v] w60 fun (v65 : Value) w66 =>
                TyP .sl v65 fun (s67 : Sl) =>
                RunK .sl P (Builtin.append_ #[T_sl_uint8, T_sl_uint8] T_sl_uint8 #[t59.fst.v, s67.v]) w66 fun (s68 : Sl) w69 =>
                next58 (some (s68, ((IntKind.i64.wrap (t59.snd.fst + 1)), ()))) w69)
                (R (.tuple #[t59.fst.v, (.int .i64 0)]) w60))
def an_ref07_DocEncode : Ann := ⟨[], [(14, [(5, .sl), (6, (.int .i64))])], []⟩
theorem e_ref07_DocEncode (R : Value → World → Prop) (x0 : Value) (w : World) : denF P an_ref07_DocEncode Try.f37 [x0] w R = S_ref07_DocEncode R x0 w := by kernel_rfl
theorem c_ref07_DocEncode {R : Value → World → Prop} {x0 : Value} {w : World} (h : S_ref07_DocEncode R x0 w) : CallP P F_ref07_DocEncode [x0] w R := calls_of_denF (an := an_ref07_DocEncode) Try.func37 (by rw [e_ref07_DocEncode]; exact h)


/-- penstock/image.Encode -/
def S_image_Encode (R : Value → World → Prop) (x0 : Value) (w : World) : Prop :=
 RunK .addr P (Instr.box T_api_Cmd x0) w fun (a0 : Addr) w1 =>
 JoinP (T := Unit) (fun J2 =>
  RunQ (.int .i64) P (Instr.loadAt T_int (.pointer (some (Go.Addr.add a0 0)))) w1 fun (n5 : Int) =>
   ifB (decide (n5 < 1))
    (R (.tuple #[(.slice none 0 0), (.int .i64 1)]) w1)
    (RunQ (.int .i64) P (Instr.loadAt T_int (.pointer (some (Go.Addr.add a0 0)))) w1 fun (n6 : Int) =>
     ifB (decide (n6 > 5))
      (R (.tuple #[(.slice none 0 0), (.int .i64 1)]) w1)
      (RunQ .sl P (Instr.loadAt T_sl_int (.pointer (some (Go.Addr.add a0 5)))) w1 fun (s7 : Sl) =>
       ifB (decide ((↑s7.len : Int) > 5))
        (R (.tuple #[(.slice none 0 0), (.int .i64 1)]) w1)
        (J2 (some ()) w1))))
  fun t3 w4 =>
  CallP P F_codec_NewWriter [] w4 fun (v8 : Value) w9 =>
   TyP .ptr v8 fun (p10 : Option Addr) =>
    RunQ (.int .i64) P (Instr.loadAt T_int (.pointer (some (Go.Addr.add a0 0)))) w9 fun (n11 : Int) =>
     RunQ (.int .i64) P (Instr.loadAt T_int (.pointer (some (Go.Addr.add a0 1)))) w9 fun (n12 : Int) =>
      RunQ (.int .i64) P (Instr.loadAt T_int (.pointer (some (Go.Addr.add a0 2)))) w9 fun (n13 : Int) =>
       RunQ (.int .i64) P (Instr.loadAt T_int (.pointer (some (Go.Addr.add a0 3)))) w9 fun (n14 : Int) =>
        RunQ (.int .i64) P (Instr.loadAt T_int (.pointer (some (Go.Addr.add a0 4)))) w9 fun (n15 : Int) =>
         RunK .sl P (Instr.buildSlice T_sl_int 5 #[(0, (.int .i64 n11)), (1, (.int .i64 n12)), (2, (.int .i64 n13)), (3, (.int .i64 n14)), (4, (.int .i64 n15))]) w9 fun (s16 : Sl) w17 =>
          LoopP (T := Int × Unit) (some (0, ())) w17 fun next18 t19 w20 =>
           ifB (decide (t19.fst < (↑s16.len : Int)))
            (RunQ .addr P (Instr.indexAt T_sl_int s16.v (.int .i64 t19.fst)) w20 fun (a21 : Addr) =>
             RunQ (.int .i64) P (Instr.loadAt T_int (.pointer (some a21))) w20 fun (n22 : Int) =>
              CallP P F_codec_Writer_Int [(.pointer p10), (.int .i64 n22)] w20 fun (v23 : Value) w24 =>
               TupP [] v23 fun (t25 : Unit) =>
                next18 (some ((IntKind.i64.wrap (t19.fst + 1)), ())) w24)
            (RunQ .sl P (Instr.loadAt T_sl_int (.pointer (some (Go.Addr.add a0 5)))) w20 fun (s26 : Sl) =>
             CallP P F_codec_Writer_Ints [(.pointer p10), s26.v] w20 fun (v27 : Value) w28 =>
              TupP [] v27 fun (t29 : Unit) =>
               CallP P F_codec_Writer_Out [(.pointer p10)] w28 fun (v30 : Value) w31 =>
                TupP [.sl, (.int .i64)] v30 fun (t32 : Sl × Int × Unit) =>
                R (.tuple #[t32.fst.v, (.int .i64 t32.snd.fst)]) w31)
def an_image_Encode : Ann := ⟨[(3, [])], [(5, [(34, (.int .i64))])], []⟩
theorem e_image_Encode (R : Value → World → Prop) (x0 : Value) (w : World) : denF P an_image_Encode Try.f42 [x0] w R = S_image_Encode R x0 w := by kernel_rfl
theorem c_image_Encode {R : Value → World → Prop} {x0 : Value} {w : World} (h : S_image_Encode R x0 w) : CallP P F_image_Encode [x0] w R := calls_of_denF (an := an_image_Encode) Try.func42 (by rw [e_image_Encode]; exact h)


/-- penstock/image.Decode -/
def S_image_Decode (R : Value → World → Prop) (x0 : Sl) (w : World) : Prop :=
 RunK .addr P (Instr.alloc T_api_Cmd true (.tuple #[])) w fun (a0 : Addr) w1 =>
 CallP P F_codec_NewReader [x0.v] w1 fun (v2 : Value) w3 =>
  TyP .ptr v2 fun (p4 : Option Addr) =>
   CallP P F_codec_Reader_Int [(.pointer p4)] w3 fun (v5 : Value) w6 =>
    TyP (.int .i64) v5 fun (n7 : Int) =>
     CallP P F_codec_Reader_Int [(.pointer p4)] w6 fun (v8 : Value) w9 =>
      TyP (.int .i64) v8 fun (n10 : Int) =>
       CallP P F_codec_Reader_Int [(.pointer p4)] w9 fun (v11 : Value) w12 =>
        TyP (.int .i64) v11 fun (n13 : Int) =>
         CallP P F_codec_Reader_Int [(.pointer p4)] w12 fun (v14 : Value) w15 =>
          TyP (.int .i64) v14 fun (n16 : Int) =>
           CallP P F_codec_Reader_Int [(.pointer p4)] w15 fun (v17 : Value) w18 =>
            TyP (.int .i64) v17 fun (n19 : Int) =>
             CallP P F_codec_Reader_Ints [(.pointer p4)] w18 fun (v20 : Value) w21 =>
              TyP .sl v20 fun (s22 : Sl) =>
               RunK .addr P (Instr.alloc T_api_Cmd true (.tuple #[])) w21 fun (a23 : Addr) w24 =>
                StoreP P T_api_Cmd (.pointer (some a23)) (.agg #[(.int .i64 n7), (.int .i64 n10), (.int .i64 n13), (.int .i64 n16), (.int .i64 n19), s22.v]) w24 fun w25 =>
                CallP P F_codec_Reader_End [(.pointer p4)] w25 fun (v26 : Value) w27 =>
                TyP (.int .i64) v26 fun (n28 : Int) =>
                ifB (n28 != 0)
                (StoreP P T_api_Cmd (.pointer (some a0)) (.agg #[(.int .i64 0), (.int .i64 0), (.int .i64 0), (.int .i64 0), (.int .i64 0), (.slice none 0 0)]) w27 fun w29 =>
                LoadK .val P T_api_Cmd (.pointer (some a0)) w29 fun (v30 : Value) =>
                R (.tuple #[v30, (.int .i64 n28)]) w29)
                (RunQ (.int .i64) P (Instr.loadAt T_int (.pointer (some (Go.Addr.add a23 0)))) w27 fun (n31 : Int) =>
                ifB (decide (n31 < 1))
                (StoreP P T_api_Cmd (.pointer (some a0)) (.agg #[(.int .i64 0), (.int .i64 0), (.int .i64 0), (.int .i64 0), (.int .i64 0), (.slice none 0 0)]) w27 fun w32 =>
                LoadK .val P T_api_Cmd (.pointer (some a0)) w32 fun (v33 : Value) =>
                R (.tuple #[v33, (.int .i64 1)]) w32)
                (RunQ (.int .i64) P (Instr.loadAt T_int (.pointer (some (Go.Addr.add a23 0)))) w27 fun (n34 : Int) =>
                ifB (decide (n34 > 5))
                (StoreP P T_api_Cmd (.pointer (some a0)) (.agg #[(.int .i64 0), (.int .i64 0), (.int .i64 0), (.int .i64 0), (.int .i64 0), (.slice none 0 0)]) w27 fun w35 =>
                LoadK .val P T_api_Cmd (.pointer (some a0)) w35 fun (v36 : Value) =>
                R (.tuple #[v36, (.int .i64 1)]) w35)
                (RunQ .sl P (Instr.loadAt T_sl_int (.pointer (some (Go.Addr.add a23 5)))) w27 fun (s37 : Sl) =>
                ifB (decide ((↑s37.len : Int) > 5))
                (StoreP P T_api_Cmd (.pointer (some a0)) (.agg #[(.int .i64 0), (.int .i64 0), (.int .i64 0), (.int .i64 0), (.int .i64 0), (.slice none 0 0)]) w27 fun w38 =>
                LoadK .val P T_api_Cmd (.pointer (some a0)) w38 fun (v39 : Value) =>
                R (.tuple #[v39, (.int .i64 1)]) w38)
                (RunQ .val P (Instr.loadAt T_api_Cmd (.pointer (some a23))) w27 fun (v40 : Value) =>
                StoreP P T_api_Cmd (.pointer (some a0)) v40 w27 fun w41 =>
                LoadK .val P T_api_Cmd (.pointer (some a0)) w41 fun (v42 : Value) =>
                R (.tuple #[v42, (.int .i64 0)]) w41))))
def an_image_Decode : Ann := ⟨[], [], []⟩
theorem e_image_Decode (R : Value → World → Prop) (x0 : Sl) (w : World) : denF P an_image_Decode Try.f51 [x0.v] w R = S_image_Decode R x0 w := by kernel_rfl
theorem c_image_Decode {R : Value → World → Prop} {x0 : Sl} {w : World} (h : S_image_Decode R x0 w) : CallP P F_image_Decode [x0.v] w R := calls_of_denF (an := an_image_Decode) Try.func51 (by rw [e_image_Decode]; exact h)


/-- penstock/penstockref07.DocCheck -/
def S_ref07_DocCheck (R : Value → World → Prop) (x0 : Value) (w : World) : Prop :=
 RunK .addr P (Instr.box T_api_Batch x0) w fun (a0 : Addr) w1 =>
 RunQ (.int .i64) P (Instr.loadAt T_int (.pointer (some (Go.Addr.add a0 0)))) w1 fun (n2 : Int) =>
  RunQ (.int .i64) P (Instr.loadAt T_int (.pointer (some (Go.Addr.add a0 1)))) w1 fun (n3 : Int) =>
   RunQ (.int .i64) P (Instr.loadAt T_int (.pointer (some (Go.Addr.add a0 3)))) w1 fun (n4 : Int) =>
    RunQ (.int .i64) P (Instr.loadAt T_int (.pointer (some (Go.Addr.add a0 4)))) w1 fun (n5 : Int) =>
     RunK .sl P (Instr.buildSlice T_sl_int 4 #[(0, (.int .i64 n2)), (1, (.int .i64 n3)), (2, (.int .i64 n4)), (3, (.int .i64 n5))]) w1 fun (s6 : Sl) w7 =>
      LoopP (T := Int × Unit) (some (0, ())) w7 fun next8 t9 w10 =>
       ifB (decide (t9.fst < (↑s6.len : Int)))
        (RunQ .addr P (Instr.indexAt T_sl_int s6.v (.int .i64 t9.fst)) w10 fun (a11 : Addr) =>
         RunQ (.int .i64) P (Instr.loadAt T_int (.pointer (some a11))) w10 fun (n12 : Int) =>
          ifB (decide (n12 < 0))
           (R (.int .i64 1) w10)
           (next8 (some ((IntKind.i64.wrap (t9.fst + 1)), ())) w10))
        (JoinP (T := Unit) (fun J13 =>
         RunQ (.int .i64) P (Instr.loadAt T_int (.pointer (some (Go.Addr.add a0 3)))) w10 fun (n16 : Int) =>
          ifB (decide (n16 > 1000))
           (R (.int .i64 1) w10)
           (RunQ (.int .u64) P (Instr.loadAt T_uint64 (.pointer (some (Go.Addr.add a0 2)))) w10 fun (n17 : Int) =>
            ifB (decide (n17 > 1000))
             (R (.int .i64 1) w10)
             (J13 (some ()) w10)))
         fun t14 w15 =>
         JoinP (T := Unit) (fun J18 =>
          RunQ .bool P (Instr.loadAt T_bool (.pointer (some (Go.Addr.add a0 6)))) w15 fun (b21 : Bool) =>
           ifB b21
            (RunQ .sl P (Instr.loadAt T_sl_sl_uint8 (.pointer (some (Go.Addr.add a0 8)))) w15 fun (s22 : Sl) =>
             ifB (decide ((↑s22.len : Int) > 0))
              (R (.int .i64 7) w15)
              (RunQ .bool P (Instr.loadAt T_bool (.pointer (some (Go.Addr.add a0 5)))) w15 fun (b23 : Bool) =>
               ifB (!b23)
                (R (.int .i64 7) w15)
                (RunQ (.int .u64) P (Instr.loadAt T_uint64 (.pointer (some (Go.Addr.add a0 2)))) w15 fun (n24 : Int) =>
                ifB (n24 == 0)
                (R (.int .i64 7) w15)
                (RunQ (.int .i64) P (Instr.loadAt T_int (.pointer (some (Go.Addr.add a0 4)))) w15 fun (n25 : Int) =>
                ifB (n25 != 0)
                (R (.int .i64 7) w15)
                (J18 (some ()) w15)))))
            (RunQ .sl P (Instr.loadAt T_sl_sl_uint8 (.pointer (some (Go.Addr.add a0 8)))) w15 fun (s26 : Sl) =>
             ifB ((↑s26.len : Int) == 0)
              (R (.int .i64 7) w15)
              (RunQ .bool P (Instr.loadAt T_bool (.pointer (some (Go.Addr.add a0 7)))) w15 fun (b27 : Bool) =>
               ifB b27
                (R (.int .i64 7) w15)
                (J18 (some ()) w15))))
          fun t19 w20 =>
          JoinP (T := Unit) (fun J28 =>
           RunQ (.int .u64) P (Instr.loadAt T_uint64 (.pointer (some (Go.Addr.add a0 2)))) w20 fun (n31 : Int) =>
            ifB (n31 == 0)
             (RunQ .bool P (Instr.loadAt T_bool (.pointer (some (Go.Addr.add a0 5)))) w20 fun (b32 : Bool) =>
              ifB b32
               (R (.int .i64 7) w20)
               (RunQ (.int .i64) P (Instr.loadAt T_int (.pointer (some (Go.Addr.add a0 3)))) w20 fun (n33 : Int) =>
                ifB (decide (n33 > 0))
                (R (.int .i64 7) w20)
                (RunQ (.int .i64) P (Instr.loadAt T_int (.pointer (some (Go.Addr.add a0 4)))) w20 fun (n34 : Int) =>
                ifB (decide (n34 > 0))
                (R (.int .i64 7) w20)
                (J28 (some ()) w20))))
             (J28 (some ()) w20))
           fun t29 w30 =>
           RunQ .sl P (Instr.loadAt T_sl_sl_uint8 (.pointer (some (Go.Addr.add a0 8)))) w30 fun (s35 : Sl) =>
            ifB (decide ((↑s35.len : Int) > 16))
             (R (.int .i64 2) w30)
             (LoopP (T := Int × Unit) (some (0, ())) w30 fun next36 t37 w38 =>
              RunQ .sl P (Instr.loadAt T_sl_sl_uint8 (.pointer (some (Go.Addr.add a0 8)))) w38 fun (s39 : Sl) =>
               ifB (decide (t37.fst < (↑s39.len : Int)))
                (RunQ .sl P (Instr.loadAt T_sl_sl_uint8 (.pointer (some (Go.Addr.add a0 8)))) w38 fun (s40 : Sl) =>
                RunQ .addr P (Instr.indexAt T_sl_sl_uint8 s40.v (.int .i64 t37.fst)) w38 fun (a41 : Addr) =>
                RunQ .sl P (Instr.loadAt T_sl_uint8 (.pointer (some a41))) w38 fun (s42 : Sl) =>
                ifB (decide ((↑s42.len : Int) > 64))
                (R (.int .i64 2) w38)
                (next36 (some ((IntKind.i64.wrap (t37.fst + 1)), ())) w38))
                (R (.int .i64 0) w38)))
def an_ref07_DocCheck : Ann := ⟨[(16, []), (14, []), (9, [])], [(2, [(16, (.int .i64))]), (19, [(5, (.int .i64))])], []⟩
theorem e_ref07_DocCheck (R : Value → World → Prop) (x0 : Value) (w : World) : denF P an_ref07_DocCheck Try.f55 [x0] w R = S_ref07_DocCheck R x0 w := by kernel_rfl
theorem c_ref07_DocCheck {R : Value → World → Prop} {x0 : Value} {w : World} (h : S_ref07_DocCheck R x0 w) : CallP P F_ref07_DocCheck [x0] w R := calls_of_denF (an := an_ref07_DocCheck) Try.func55 (by rw [e_ref07_DocCheck]; exact h)


/-- penstock/batch.Encode -/
def S_batch_Encode (R : Value → World → Prop) (x0 : Value) (w : World) : Prop :=
 RunK .addr P (Instr.box T_api_Batch x0) w fun (a0 : Addr) w1 =>
 RunQ .val P (Instr.loadAt T_api_Batch (.pointer (some a0))) w1 fun (v2 : Value) =>
  CallP P F_batch_Check [v2] w1 fun (v3 : Value) w4 =>
   TyP (.int .i64) v3 fun (n5 : Int) =>
    ifB (n5 != 0)
     (R (.tuple #[(.slice none 0 0), (.int .i64 n5)]) w4)
     (CallP P F_codec_NewWriter [] w4 fun (v6 : Value) w7 =>
      TyP .ptr v6 fun (p8 : Option Addr) =>
       RunQ (.int .i64) P (Instr.loadAt T_int (.pointer (some (Go.Addr.add a0 0)))) w7 fun (n9 : Int) =>
        CallP P F_codec_Writer_Int [(.pointer p8), (.int .i64 n9)] w7 fun (v10 : Value) w11 =>
         TupP [] v10 fun (t12 : Unit) =>
          RunQ (.int .i64) P (Instr.loadAt T_int (.pointer (some (Go.Addr.add a0 1)))) w11 fun (n13 : Int) =>
           CallP P F_codec_Writer_Int [(.pointer p8), (.int .i64 n13)] w11 fun (v14 : Value) w15 =>
            TupP [] v14 fun (t16 : Unit) =>
             RunQ (.int .u64) P (Instr.loadAt T_uint64 (.pointer (some (Go.Addr.add a0 2)))) w15 fun (n17 : Int) =>
              CallP P F_codec_Writer_Uint [(.pointer p8), (.int .u64 n17)] w15 fun (v18 : Value) w19 =>
               TupP [] v18 fun (t20 : Unit) =>
                RunQ (.int .i64) P (Instr.loadAt T_int (.pointer (some (Go.Addr.add a0 3)))) w19 fun (n21 : Int) =>
                CallP P F_codec_Writer_Int [(.pointer p8), (.int .i64 n21)] w19 fun (v22 : Value) w23 =>
                TupP [] v22 fun (t24 : Unit) =>
                RunQ (.int .i64) P (Instr.loadAt T_int (.pointer (some (Go.Addr.add a0 4)))) w23 fun (n25 : Int) =>
                CallP P F_codec_Writer_Int [(.pointer p8), (.int .i64 n25)] w23 fun (v26 : Value) w27 =>
                TupP [] v26 fun (t28 : Unit) =>
                RunQ .bool P (Instr.loadAt T_bool (.pointer (some (Go.Addr.add a0 5)))) w27 fun (b29 : Bool) =>
                RunQ .bool P (Instr.loadAt T_bool (.pointer (some (Go.Addr.add a0 6)))) w27 fun (b30 : Bool) =>
                RunQ .bool P (Instr.loadAt T_bool (.pointer (some (Go.Addr.add a0 7)))) w27 fun (b31 : Bool) =>
                RunK .sl P (Instr.buildSlice T_sl_bool 3 #[(0, (.bool b29)), (1, (.bool b30)), (2, (.bool b31))]) w27 fun (s32 : Sl) w33 =>
                LoopP (T := Int × Unit) (some (0, ())) w33 fun next34 t35 w36 =>
                ifB (decide (t35.fst < (↑s32.len : Int)))
                (RunQ .addr P (Instr.indexAt T_sl_bool s32.v (.int .i64 t35.fst)) w36 fun (a37 : Addr) =>
                RunQ .bool P (Instr.loadAt T_bool (.pointer (some a37))) w36 fun (b38 : Bool) =>
                CallP P F_codec_Writer_Flag [(.pointer p8), (.bool b38)] w36 fun (v39 : Value) w40 =>
                TupP [] v39 fun (t41 : Unit) =>
                next34 (some ((IntKind.i64.wrap (t35.fst + 1)), ())) w40)
                (RunQ .sl P (Instr.loadAt T_sl_sl_uint8 (.pointer (some (Go.Addr.add a0 8)))) w36 fun (s42 : Sl) =>
                CallP P F_codec_Writer_Uint [(.pointer p8), (.int .u64 (IntKind.u64.wrap (↑s42.len : Int)))] w36 fun (v43 : Value) w44 =>
                TupP [] v43 fun (t45 : Unit) =>
                RunQ .sl P (Instr.loadAt T_sl_sl_uint8 (.pointer (some (Go.Addr.add a0 8)))) w44 fun (s46 : Sl) =>
                LoopP (T := Int × Unit) (some (0, ())) w44 fun next47 t48 w49 =>
                ifB (decide (t48.fst < (↑s46.len : Int)))
                (RunQ .addr P (Instr.indexAt T_sl_sl_uint8 s46.v (.int .i64 t48.fst)) w49 fun (a50 : Addr) =>
                RunQ .sl P (Instr.loadAt T_sl_uint8 (.pointer (some a50))) w49 fun (s51 : Sl) =>
                CallP P F_codec_Writer_Bytes [(.pointer p8), s51.v] w49 fun (v52 : Value) w53 =>
                TupP [] v52 fun (t54 : Unit) =>
                next47 (some ((IntKind.i64.wrap (t48.fst + 1)), ())) w53)
                (CallP P F_codec_Writer_Out [(.pointer p8)] w49 fun (v55 : Value) w56 =>
                TupP [.sl, (.int .i64)] v55 fun (t57 : Sl × Int × Unit) =>
                R (.tuple #[t57.fst.v, (.int .i64 t57.snd.fst)]) w56)))
def an_batch_Encode : Ann := ⟨[], [(11, [(44, (.int .i64))]), (17, [(61, (.int .i64))])], []⟩
theorem e_batch_Encode (R : Value → World → Prop) (x0 : Value) (w : World) : denF P an_batch_Encode Try.f70 [x0] w R = S_batch_Encode R x0 w := by kernel_rfl
theorem c_batch_Encode {R : Value → World → Prop} {x0 : Value} {w : World} (h : S_batch_Encode R x0 w) : CallP P F_batch_Encode [x0] w R := calls_of_denF (an := an_batch_Encode) Try.func70 (by rw [e_batch_Encode]; exact h)


/-- penstock/batch.Decode -/
def S_batch_Decode (R : Value → World → Prop) (x0 : Sl) (w : World) : Prop :=
 RunK .addr P (Instr.alloc T_api_Batch true (.tuple #[])) w fun (a0 : Addr) w1 =>
 CallP P F_codec_NewReader [x0.v] w1 fun (v2 : Value) w3 =>
  TyP .ptr v2 fun (p4 : Option Addr) =>
   CallP P F_codec_Reader_Int [(.pointer p4)] w3 fun (v5 : Value) w6 =>
    TyP (.int .i64) v5 fun (n7 : Int) =>
     CallP P F_codec_Reader_Int [(.pointer p4)] w6 fun (v8 : Value) w9 =>
      TyP (.int .i64) v8 fun (n10 : Int) =>
       CallP P F_codec_Reader_Uint [(.pointer p4)] w9 fun (v11 : Value) w12 =>
        TyP (.int .u64) v11 fun (n13 : Int) =>
         CallP P F_codec_Reader_Int [(.pointer p4)] w12 fun (v14 : Value) w15 =>
          TyP (.int .i64) v14 fun (n16 : Int) =>
           CallP P F_codec_Reader_Int [(.pointer p4)] w15 fun (v17 : Value) w18 =>
            TyP (.int .i64) v17 fun (n19 : Int) =>
             CallP P F_codec_Reader_Flag [(.pointer p4)] w18 fun (v20 : Value) w21 =>
              TyP .bool v20 fun (b22 : Bool) =>
               CallP P F_codec_Reader_Flag [(.pointer p4)] w21 fun (v23 : Value) w24 =>
                TyP .bool v23 fun (b25 : Bool) =>
                CallP P F_codec_Reader_Flag [(.pointer p4)] w24 fun (v26 : Value) w27 =>
                TyP .bool v26 fun (b28 : Bool) =>
                RunK .addr P (Instr.alloc T_api_Batch true (.tuple #[])) w27 fun (a29 : Addr) w30 =>
                StoreP P T_api_Batch (.pointer (some a29)) (.agg #[(.int .i64 n7), (.int .i64 n10), (.int .u64 n13), (.int .i64 n16), (.int .i64 n19), (.bool b22), (.bool b25), (.bool b28), (.slice none 0 0)]) w30 fun w31 =>
                CallP P F_codec_Reader_Uint [(.pointer p4)] w31 fun (v32 : Value) w33 =>
                TyP (.int .u64) v32 fun (n34 : Int) =>
                JoinP (T := Unit) (fun J35 =>
                CallP P F_codec_Reader_State [(.pointer p4)] w33 fun (v38 : Value) w39 =>
                TupP [(.int .i64), (.int .i64), (.int .i64)] v38 fun (t40 : Int × Int × Int × Unit) =>
                ifB (t40.snd.snd.fst == 0)
                (ifB (decide (n34 > 16))
                (StoreP P T_api_Batch (.pointer (some a0)) (.agg #[(.int .i64 0), (.int .i64 0), (.int .u64 0), (.int .i64 0), (.int .i64 0), (.bool false), (.bool false), (.bool false), (.slice none 0 0)]) w39 fun w41 =>
                LoadK .val P T_api_Batch (.pointer (some a0)) w41 fun (v42 : Value) =>
                R (.tuple #[v42, (.int .i64 2)]) w41)
                (J35 (some ()) w39))
                (J35 (some ()) w39))
                fun t36 w37 =>
                LoopP (T := Int × Unit) (some (0, ())) w37 fun next43 t44 w45 =>
                ifB (decide (t44.fst < n34))
                (∃ S46 : World → Prop, (S46 w45.drew) ∧
                (RunQ .sl P (Instr.loadAt T_sl_sl_uint8 (.pointer (some (Go.Addr.add a29 8)))) w45.drew fun (s47 : Sl) =>
                (S46 w45.drew) ∧
                CallP P F_codec_Reader_Bytes [(.pointer p4)] w45.drew fun (v48 : Value) w49 =>
                TyP .sl v48 fun (s50 : Sl) =>
                (S46 w49) ∧
                RunK .sl P (Instr.buildSlice T_sl_sl_uint8 1 #[(0, s50.v)]) w49 fun (s51 : Sl) w52 =>
                (S46 w52) ∧
                RunK .sl P (Builtin.append_ #[T_sl_sl_uint8, T_sl_sl_uint8] T_sl_sl_uint8 #[s47.v, s51.v]) w52 fun (s53 : Sl) w54 =>
                (S46 w54) ∧
                StoreP P T_sl_sl_uint8 (.pointer (some (Go.Addr.add a29 8))) s53.v w54 fun w55 =>
                (S46 w55) ∧
                next43 (some ((IntKind.u64.wrap (t44.fst + 1)), ())) w55) ∧
                (CallP P F_codec_Reader_Bytes [(.pointer p4)] w45.drew fun (v56 : Value) w57 =>
                TyP .sl v56 fun (s58 : Sl) =>
                (S46 w57) ∧
                (RunQ .sl P (Instr.loadAt T_sl_sl_uint8 (.pointer (some (Go.Addr.add a29 8)))) w57 fun (s59 : Sl) =>
                (S46 w57) ∧
                RunK .sl P (Instr.buildSlice T_sl_sl_uint8 1 #[(0, s58.v)]) w57 fun (s60 : Sl) w61 =>
                (S46 w61) ∧
                RunK .sl P (Builtin.append_ #[T_sl_sl_uint8, T_sl_sl_uint8] T_sl_sl_uint8 #[s59.v, s60.v]) w61 fun (s62 : Sl) w63 =>
                (S46 w63) ∧
                StoreP P T_sl_sl_uint8 (.pointer (some (Go.Addr.add a29 8))) s62.v w63 fun w64 =>
                (S46 w64) ∧
                next43 (some ((IntKind.u64.wrap (t44.fst + 1)), ())) w64) ∧
                (RunK .sl P (Instr.buildSlice T_sl_sl_uint8 1 #[(0, s58.v)]) w57 fun (s65 : Sl) w66 =>
                (S46 w66) ∧
                RunQ .sl P (Instr.loadAt T_sl_sl_uint8 (.pointer (some (Go.Addr.add a29 8)))) w66 fun (s67 : Sl) =>
                (S46 w66) ∧
                RunK .sl P (Builtin.append_ #[T_sl_sl_uint8, T_sl_sl_uint8] T_sl_sl_uint8 #[s67.v, s65.v]) w66 fun (s68 : Sl) w69 =>
                (S46 w69) ∧
                StoreP P T_sl_sl_uint8 (.pointer (some (Go.Addr.add a29 8))) s68.v w69 fun w70 =>
                (S46 w70) ∧
                next43 (some ((IntKind.u64.wrap (t44.fst + 1)), ())) w70) ∧
                True) ∧
                True)
                (CallP P F_codec_Reader_End [(.pointer p4)] w45 fun (v71 : Value) w72 =>
                TyP (.int .i64) v71 fun (n73 : Int) =>
                ifB (n73 != 0)
                (StoreP P T_api_Batch (.pointer (some a0)) (.agg #[(.int .i64 0), (.int .i64 0), (.int .u64 0), (.int .i64 0), (.int .i64 0), (.bool false), (.bool false), (.bool false), (.slice none 0 0)]) w72 fun w74 =>
                LoadK .val P T_api_Batch (.pointer (some a0)) w74 fun (v75 : Value) =>
                R (.tuple #[v75, (.int .i64 n73)]) w74)
                (RunQ .val P (Instr.loadAt T_api_Batch (.pointer (some a29))) w72 fun (v76 : Value) =>
                CallP P F_batch_Check [v76] w72 fun (v77 : Value) w78 =>
                TyP (.int .i64) v77 fun (n79 : Int) =>
                ifB (n79 != 0)
                (StoreP P T_api_Batch (.pointer (some a0)) (.agg #[(.int .i64 0), (.int .i64 0), (.int .u64 0), (.int .i64 0), (.int .i64 0), (.bool false), (.bool false), (.bool false), (.slice none 0 0)]) w78 fun w80 =>
                LoadK .val P T_api_Batch (.pointer (some a0)) w80 fun (v81 : Value) =>
                R (.tuple #[v81, (.int .i64 n79)]) w80)
                (RunQ .val P (Instr.loadAt T_api_Batch (.pointer (some a29))) w78 fun (v82 : Value) =>
                StoreP P T_api_Batch (.pointer (some a0)) v82 w78 fun w83 =>
                LoadK .val P T_api_Batch (.pointer (some a0)) w83 fun (v84 : Value) =>
                R (.tuple #[v84, (.int .i64 0)]) w83)))
def an_batch_Decode : Ann := ⟨[(7, [])], [(8, [(47, (.int .u64))])], [9]⟩
theorem e_batch_Decode (R : Value → World → Prop) (x0 : Sl) (w : World) : denF P an_batch_Decode Try.f72 [x0.v] w R = S_batch_Decode R x0 w := by kernel_rfl
theorem c_batch_Decode {R : Value → World → Prop} {x0 : Sl} {w : World} (h : S_batch_Decode R x0 w) : CallP P F_batch_Decode [x0.v] w R := calls_of_denF (an := an_batch_Decode) Try.func72 (by rw [e_batch_Decode]; exact h)


/-- penstock/batch.Check -/
def S_batch_Check (R : Value → World → Prop) (x0 : Value) (w : World) : Prop :=
 RunK .addr P (Instr.box T_api_Batch x0) w fun (a0 : Addr) w1 =>
 JoinP (T := Unit) (fun J2 =>
  RunQ (.int .i64) P (Instr.loadAt T_int (.pointer (some (Go.Addr.add a0 0)))) w1 fun (n5 : Int) =>
   ifB (decide (n5 < 0))
    (R (.int .i64 1) w1)
    (RunQ (.int .i64) P (Instr.loadAt T_int (.pointer (some (Go.Addr.add a0 1)))) w1 fun (n6 : Int) =>
     ifB (decide (n6 < 0))
      (R (.int .i64 1) w1)
      (RunQ (.int .i64) P (Instr.loadAt T_int (.pointer (some (Go.Addr.add a0 3)))) w1 fun (n7 : Int) =>
       ifB (decide (n7 < 0))
        (R (.int .i64 1) w1)
        (RunQ (.int .i64) P (Instr.loadAt T_int (.pointer (some (Go.Addr.add a0 3)))) w1 fun (n8 : Int) =>
         ifB (decide (n8 > 1000))
          (R (.int .i64 1) w1)
          (RunQ (.int .i64) P (Instr.loadAt T_int (.pointer (some (Go.Addr.add a0 4)))) w1 fun (n9 : Int) =>
           ifB (decide (n9 < 0))
            (R (.int .i64 1) w1)
            (RunQ (.int .u64) P (Instr.loadAt T_uint64 (.pointer (some (Go.Addr.add a0 2)))) w1 fun (n10 : Int) =>
             ifB (decide (n10 > 1000))
              (R (.int .i64 1) w1)
              (RunQ .bool P (Instr.loadAt T_bool (.pointer (some (Go.Addr.add a0 6)))) w1 fun (b11 : Bool) =>
               ifB b11
                (RunQ .sl P (Instr.loadAt T_sl_sl_uint8 (.pointer (some (Go.Addr.add a0 8)))) w1 fun (s12 : Sl) =>
                ifB (decide ((↑s12.len : Int) > 0))
                (R (.int .i64 7) w1)
                (RunQ .bool P (Instr.loadAt T_bool (.pointer (some (Go.Addr.add a0 5)))) w1 fun (b13 : Bool) =>
                ifB (!b13)
                (R (.int .i64 7) w1)
                (RunQ (.int .u64) P (Instr.loadAt T_uint64 (.pointer (some (Go.Addr.add a0 2)))) w1 fun (n14 : Int) =>
                ifB (n14 == 0)
                (R (.int .i64 7) w1)
                (RunQ (.int .i64) P (Instr.loadAt T_int (.pointer (some (Go.Addr.add a0 4)))) w1 fun (n15 : Int) =>
                ifB (decide (n15 > 0))
                (R (.int .i64 7) w1)
                (RunQ .bool P (Instr.loadAt T_bool (.pointer (some (Go.Addr.add a0 6)))) w1 fun (b16 : Bool) =>
                ifB (!b16)
                (RunQ .sl P (Instr.loadAt T_sl_sl_uint8 (.pointer (some (Go.Addr.add a0 8)))) w1 fun (s17 : Sl) =>
                ifB ((↑s17.len : Int) == 0)
                (R (.int .i64 7) w1)
                (RunQ .bool P (Instr.loadAt T_bool (.pointer (some (Go.Addr.add a0 7)))) w1 fun (b18 : Bool) =>
                ifB b18
                (R (.int .i64 7) w1)
                (RunQ .bool P (Instr.loadAt T_bool (.pointer (some (Go.Addr.add a0 5)))) w1 fun (b19 : Bool) =>
                ifB b19
                (RunQ (.int .u64) P (Instr.loadAt T_uint64 (.pointer (some (Go.Addr.add a0 2)))) w1 fun (n20 : Int) =>
                ifB (n20 == 0)
                (R (.int .i64 7) w1)
                (RunQ (.int .u64) P (Instr.loadAt T_uint64 (.pointer (some (Go.Addr.add a0 2)))) w1 fun (n21 : Int) =>
                ifB (n21 == 0)
                (RunQ (.int .i64) P (Instr.loadAt T_int (.pointer (some (Go.Addr.add a0 3)))) w1 fun (n22 : Int) =>
                ifB (decide (n22 > 0))
                (R (.int .i64 7) w1)
                (RunQ (.int .i64) P (Instr.loadAt T_int (.pointer (some (Go.Addr.add a0 4)))) w1 fun (n23 : Int) =>
                ifB (decide (n23 > 0))
                (R (.int .i64 7) w1)
                (RunQ .sl P (Instr.loadAt T_sl_sl_uint8 (.pointer (some (Go.Addr.add a0 8)))) w1 fun (s24 : Sl) =>
                ifB (decide ((↑s24.len : Int) > 16))
                (R (.int .i64 2) w1)
                (J2 (some ()) w1))))
                (RunQ .sl P (Instr.loadAt T_sl_sl_uint8 (.pointer (some (Go.Addr.add a0 8)))) w1 fun (s25 : Sl) =>
                ifB (decide ((↑s25.len : Int) > 16))
                (R (.int .i64 2) w1)
                (J2 (some ()) w1))))
                (RunQ (.int .u64) P (Instr.loadAt T_uint64 (.pointer (some (Go.Addr.add a0 2)))) w1 fun (n26 : Int) =>
                ifB (n26 == 0)
                (RunQ (.int .i64) P (Instr.loadAt T_int (.pointer (some (Go.Addr.add a0 3)))) w1 fun (n27 : Int) =>
                ifB (decide (n27 > 0))
                (R (.int .i64 7) w1)
                (RunQ (.int .i64) P (Instr.loadAt T_int (.pointer (some (Go.Addr.add a0 4)))) w1 fun (n28 : Int) =>
                ifB (decide (n28 > 0))
                (R (.int .i64 7) w1)
                (RunQ .sl P (Instr.loadAt T_sl_sl_uint8 (.pointer (some (Go.Addr.add a0 8)))) w1 fun (s29 : Sl) =>
                ifB (decide ((↑s29.len : Int) > 16))
                (R (.int .i64 2) w1)
                (J2 (some ()) w1))))
                (RunQ .sl P (Instr.loadAt T_sl_sl_uint8 (.pointer (some (Go.Addr.add a0 8)))) w1 fun (s30 : Sl) =>
                ifB (decide ((↑s30.len : Int) > 16))
                (R (.int .i64 2) w1)
                (J2 (some ()) w1))))))
                (RunQ .bool P (Instr.loadAt T_bool (.pointer (some (Go.Addr.add a0 5)))) w1 fun (b31 : Bool) =>
                ifB b31
                (RunQ (.int .u64) P (Instr.loadAt T_uint64 (.pointer (some (Go.Addr.add a0 2)))) w1 fun (n32 : Int) =>
                ifB (n32 == 0)
                (R (.int .i64 7) w1)
                (RunQ (.int .u64) P (Instr.loadAt T_uint64 (.pointer (some (Go.Addr.add a0 2)))) w1 fun (n33 : Int) =>
                ifB (n33 == 0)
                (RunQ (.int .i64) P (Instr.loadAt T_int (.pointer (some (Go.Addr.add a0 3)))) w1 fun (n34 : Int) =>
                ifB (decide (n34 > 0))
                (R (.int .i64 7) w1)
                (RunQ (.int .i64) P (Instr.loadAt T_int (.pointer (some (Go.Addr.add a0 4)))) w1 fun (n35 : Int) =>
                ifB (decide (n35 > 0))
                (R (.int .i64 7) w1)
                (RunQ .sl P (Instr.loadAt T_sl_sl_uint8 (.pointer (some (Go.Addr.add a0 8)))) w1 fun (s36 : Sl) =>
                ifB (decide ((↑s36.len : Int) > 16))
                (R (.int .i64 2) w1)
                (J2 (some ()) w1))))
                (RunQ .sl P (Instr.loadAt T_sl_sl_uint8 (.pointer (some (Go.Addr.add a0 8)))) w1 fun (s37 : Sl) =>
                ifB (decide ((↑s37.len : Int) > 16))
                (R (.int .i64 2) w1)
                (J2 (some ()) w1))))
                (RunQ (.int .u64) P (Instr.loadAt T_uint64 (.pointer (some (Go.Addr.add a0 2)))) w1 fun (n38 : Int) =>
                ifB (n38 == 0)
                (RunQ (.int .i64) P (Instr.loadAt T_int (.pointer (some (Go.Addr.add a0 3)))) w1 fun (n39 : Int) =>
                ifB (decide (n39 > 0))
                (R (.int .i64 7) w1)
                (RunQ (.int .i64) P (Instr.loadAt T_int (.pointer (some (Go.Addr.add a0 4)))) w1 fun (n40 : Int) =>
                ifB (decide (n40 > 0))
                (R (.int .i64 7) w1)
                (RunQ .sl P (Instr.loadAt T_sl_sl_uint8 (.pointer (some (Go.Addr.add a0 8)))) w1 fun (s41 : Sl) =>
                ifB (decide ((↑s41.len : Int) > 16))
                (R (.int .i64 2) w1)
                (J2 (some ()) w1))))
                (RunQ .sl P (Instr.loadAt T_sl_sl_uint8 (.pointer (some (Go.Addr.add a0 8)))) w1 fun (s42 : Sl) =>
                ifB (decide ((↑s42.len : Int) > 16))
                (R (.int .i64 2) w1)
                (J2 (some ()) w1)))))))))
                (RunQ .bool P (Instr.loadAt T_bool (.pointer (some (Go.Addr.add a0 6)))) w1 fun (b43 : Bool) =>
                ifB (!b43)
                (RunQ .sl P (Instr.loadAt T_sl_sl_uint8 (.pointer (some (Go.Addr.add a0 8)))) w1 fun (s44 : Sl) =>
                ifB ((↑s44.len : Int) == 0)
                (R (.int .i64 7) w1)
                (RunQ .bool P (Instr.loadAt T_bool (.pointer (some (Go.Addr.add a0 7)))) w1 fun (b45 : Bool) =>
                ifB b45
                (R (.int .i64 7) w1)
                (RunQ .bool P (Instr.loadAt T_bool (.pointer (some (Go.Addr.add a0 5)))) w1 fun (b46 : Bool) =>
                ifB b46
                (RunQ (.int .u64) P (Instr.loadAt T_uint64 (.pointer (some (Go.Addr.add a0 2)))) w1 fun (n47 : Int) =>
                ifB (n47 == 0)
                (R (.int .i64 7) w1)
                (RunQ (.int .u64) P (Instr.loadAt T_uint64 (.pointer (some (Go.Addr.add a0 2)))) w1 fun (n48 : Int) =>
                ifB (n48 == 0)
                (RunQ (.int .i64) P (Instr.loadAt T_int (.pointer (some (Go.Addr.add a0 3)))) w1 fun (n49 : Int) =>
                ifB (decide (n49 > 0))
                (R (.int .i64 7) w1)
                (RunQ (.int .i64) P (Instr.loadAt T_int (.pointer (some (Go.Addr.add a0 4)))) w1 fun (n50 : Int) =>
                ifB (decide (n50 > 0))
                (R (.int .i64 7) w1)
                (RunQ .sl P (Instr.loadAt T_sl_sl_uint8 (.pointer (some (Go.Addr.add a0 8)))) w1 fun (s51 : Sl) =>
                ifB (decide ((↑s51.len : Int) > 16))
                (R (.int .i64 2) w1)
                (J2 (some ()) w1))))
                (RunQ .sl P (Instr.loadAt T_sl_sl_uint8 (.pointer (some (Go.Addr.add a0 8)))) w1 fun (s52 : Sl) =>
                ifB (decide ((↑s52.len : Int) > 16))
                (R (.int .i64 2) w1)
                (J2 (some ()) w1))))
                (RunQ (.int .u64) P (Instr.loadAt T_uint64 (.pointer (some (Go.Addr.add a0 2)))) w1 fun (n53 : Int) =>
                ifB (n53 == 0)
                (RunQ (.int .i64) P (Instr.loadAt T_int (.pointer (some (Go.Addr.add a0 3)))) w1 fun (n54 : Int) =>
                ifB (decide (n54 > 0))
                (R (.int .i64 7) w1)
                (RunQ (.int .i64) P (Instr.loadAt T_int (.pointer (some (Go.Addr.add a0 4)))) w1 fun (n55 : Int) =>
                ifB (decide (n55 > 0))
                (R (.int .i64 7) w1)
                (RunQ .sl P (Instr.loadAt T_sl_sl_uint8 (.pointer (some (Go.Addr.add a0 8)))) w1 fun (s56 : Sl) =>
                ifB (decide ((↑s56.len : Int) > 16))
                (R (.int .i64 2) w1)
                (J2 (some ()) w1))))
                (RunQ .sl P (Instr.loadAt T_sl_sl_uint8 (.pointer (some (Go.Addr.add a0 8)))) w1 fun (s57 : Sl) =>
                ifB (decide ((↑s57.len : Int) > 16))
                (R (.int .i64 2) w1)
                (J2 (some ()) w1))))))
                (RunQ .bool P (Instr.loadAt T_bool (.pointer (some (Go.Addr.add a0 5)))) w1 fun (b58 : Bool) =>
                ifB b58
                (RunQ (.int .u64) P (Instr.loadAt T_uint64 (.pointer (some (Go.Addr.add a0 2)))) w1 fun (n59 : Int) =>
                ifB (n59 == 0)
                (R (.int .i64 7) w1)
                (RunQ (.int .u64) P (Instr.loadAt T_uint64 (.pointer (some (Go.Addr.add a0 2)))) w1 fun (n60 : Int) =>
                ifB (n60 == 0)
                (RunQ (.int .i64) P (Instr.loadAt T_int (.pointer (some (Go.Addr.add a0 3)))) w1 fun (n61 : Int) =>
                ifB (decide (n61 > 0))
                (R (.int .i64 7) w1)
                (RunQ (.int .i64) P (Instr.loadAt T_int (.pointer (some (Go.Addr.add a0 4)))) w1 fun (n62 : Int) =>
                ifB (decide (n62 > 0))
                (R (.int .i64 7) w1)
                (RunQ .sl P (Instr.loadAt T_sl_sl_uint8 (.pointer (some (Go.Addr.add a0 8)))) w1 fun (s63 : Sl) =>
                ifB (decide ((↑s63.len : Int) > 16))
                (R (.int .i64 2) w1)
                (J2 (some ()) w1))))
                (RunQ .sl P (Instr.loadAt T_sl_sl_uint8 (.pointer (some (Go.Addr.add a0 8)))) w1 fun (s64 : Sl) =>
                ifB (decide ((↑s64.len : Int) > 16))
                (R (.int .i64 2) w1)
                (J2 (some ()) w1))))
                (RunQ (.int .u64) P (Instr.loadAt T_uint64 (.pointer (some (Go.Addr.add a0 2)))) w1 fun (n65 : Int) =>
                ifB (n65 == 0)
                (RunQ (.int .i64) P (Instr.loadAt T_int (.pointer (some (Go.Addr.add a0 3)))) w1 fun (n66 : Int) =>
                ifB (decide (n66 > 0))
                (R (.int .i64 7) w1)
                (RunQ (.int .i64) P (Instr.loadAt T_int (.pointer (some (Go.Addr.add a0 4)))) w1 fun (n67 : Int) =>
                ifB (decide (n67 > 0))
                (R (.int .i64 7) w1)
                (RunQ .sl P (Instr.loadAt T_sl_sl_uint8 (.pointer (some (Go.Addr.add a0 8)))) w1 fun (s68 : Sl) =>
                ifB (decide ((↑s68.len : Int) > 16))
                (R (.int .i64 2) w1)
                (J2 (some ()) w1))))
                (RunQ .sl P (Instr.loadAt T_sl_sl_uint8 (.pointer (some (Go.Addr.add a0 8)))) w1 fun (s69 : Sl) =>
                ifB (decide ((↑s69.len : Int) > 16))
                (R (.int .i64 2) w1)
                (J2 (some ()) w1))))))))))))
  fun t3 w4 =>
  RunQ .sl P (Instr.loadAt T_sl_sl_uint8 (.pointer (some (Go.Addr.add a0 8)))) w4 fun (s70 : Sl) =>
   LoopP (T := Int × Unit) (some (0, ())) w4 fun next71 t72 w73 =>
    ifB (decide (t72.fst < (↑s70.len : Int)))
     (RunQ .addr P (Instr.indexAt T_sl_sl_uint8 s70.v (.int .i64 t72.fst)) w73 fun (a74 : Addr) =>
      RunQ .sl P (Instr.loadAt T_sl_uint8 (.pointer (some a74))) w73 fun (s75 : Sl) =>
       ifB (decide ((↑s75.len : Int) > 64))
        (R (.int .i64 2) w73)
        (next71 (some ((IntKind.i64.wrap (t72.fst + 1)), ())) w73))
     (R (.int .i64 0) w73)
def an_batch_Check : Ann := ⟨[(10, [])], [(11, [(99, (.int .i64))])], []⟩
theorem e_batch_Check (R : Value → World → Prop) (x0 : Value) (w : World) : denF P an_batch_Check Try.f73 [x0] w R = S_batch_Check R x0 w := by kernel_rfl
theorem c_batch_Check {R : Value → World → Prop} {x0 : Value} {w : World} (h : S_batch_Check R x0 w) : CallP P F_batch_Check [x0] w R := calls_of_denF (an := an_batch_Check) Try.func73 (by rw [e_batch_Check]; exact h)

end Go.Proofs.Ytokogdigfohbeaa
