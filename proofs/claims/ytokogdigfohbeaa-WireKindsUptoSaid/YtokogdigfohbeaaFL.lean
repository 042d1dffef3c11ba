/- The functions of the program as predicates over worlds, written by a program of mine (PkPrint); each is held against the code by the kernel. -/
import Derived.Test.YtokogdigfohbeaaN
namespace Go.Proofs.Ytokogdigfohbeaa
open Go Go.Pk
/-- penstock/penstocklaw17.WireWrites -/
def S_law17_WireWrites (R : Value → World → Prop) (x0 : Value) (w : World) : Prop :=
 RunK .addr P (Instr.box T_api_Msg x0) w fun (a0 : Addr) w1 =>
 RunQ .val P (Instr.loadAt T_api_Msg (.pointer (some a0))) w1 fun (v2 : Value) =>
  CallP P F_ref17_DocEncode [v2] w1 fun (v3 : Value) w4 =>
   TupP [.sl, (.int .i64)] v3 fun (t5 : Sl × Int × Unit) =>
    CallP P F_law17_awake [] w4 fun (v6 : Value) w7 =>
     TyP .bool v6 fun (b8 : Bool) =>
      ifB (!b8)
       (R (.bool false) w7)
       (LoopP (T := Int × Unit) (some (0, ())) w7 fun next9 t10 w11 =>
        ifB (decide (t10.fst < 2))
         (RunQ .val P (Instr.loadAt T_api_Msg (.pointer (some a0))) w11 fun (v12 : Value) =>
          CallP P F_wire_Encode [v12] w11 fun (v13 : Value) w14 =>
           TupP [.sl, (.int .i64)] v13 fun (t15 : Sl × Int × Unit) =>
            JoinP (T := Unit) (fun J16 =>
             ifB (t15.snd.fst != t5.snd.fst)
              (R (.bool false) w14)
              (CallP P F_ref03_Same [t15.fst.v, t5.fst.v] w14 fun (v19 : Value) w20 =>
               TyP .bool v19 fun (b21 : Bool) =>
                ifB (!b21)
                (R (.bool false) w20)
                (J16 (some ()) w20)))
             fun t17 w18 =>
             LoopP (T := Int × Unit) (some (0, ())) w18 fun next22 t23 w24 =>
              ifB (decide (t23.fst < (↑t15.fst.len : Int)))
               (RunQ .addr P (Instr.indexAt T_sl_uint8 t15.fst.v (.int .i64 t23.fst)) w24 fun (a25 : Addr) =>
                StoreP P T_uint8 (.pointer (some a25)) (.int .u8 1) w24 fun w26 =>
                next22 (some ((IntKind.i64.wrap (t23.fst + 1)), ())) w26)
               (next9 (some ((IntKind.i64.wrap (t10.fst + 1)), ())) w24))
         (R (.bool true) w11))
def an_law17_WireWrites : Ann := ⟨[(10, [])], [(11, [(36, (.int .i64))]), (5, [(5, (.int .i64))])], []⟩
theorem e_law17_WireWrites (R : Value → World → Prop) (x0 : Value) (w : World) : denF P an_law17_WireWrites Try.f3 [x0] w R = S_law17_WireWrites R x0 w := by kernel_rfl
theorem c_law17_WireWrites {R : Value → World → Prop} {x0 : Value} {w : World} (h : S_law17_WireWrites R x0 w) : CallP P F_law17_WireWrites [x0] w R := calls_of_denF (an := an_law17_WireWrites) Try.func3 (by rw [e_law17_WireWrites]; exact h)


/-- penstock/penstocklaw17.WireBack -/
def S_law17_WireBack (R : Value → World → Prop) (x0 : Value) (w : World) : Prop :=
 RunK .addr P (Instr.box T_api_Msg x0) w fun (a0 : Addr) w1 =>
 RunQ .val P (Instr.loadAt T_api_Msg (.pointer (some a0))) w1 fun (v2 : Value) =>
  CallP P F_wire_Encode [v2] w1 fun (v3 : Value) w4 =>
   TupP [.sl, (.int .i64)] v3 fun (t5 : Sl × Int × Unit) =>
    JoinP (T := Unit) (fun J6 =>
     CallP P F_law17_awake [] w4 fun (v9 : Value) w10 =>
      TyP .bool v9 fun (b11 : Bool) =>
       ifB (!b11)
        (CallP P F_law17_awake [] w10 fun (v12 : Value) w13 =>
         TyP .bool v12 fun (b14 : Bool) =>
          ifB b14
           (R (.bool ((↑t5.fst.len : Int) == 0)) w13)
           (R (.bool false) w13))
        (ifB (t5.snd.fst != 0)
         (CallP P F_law17_awake [] w10 fun (v15 : Value) w16 =>
          TyP .bool v15 fun (b17 : Bool) =>
           ifB b17
            (R (.bool ((↑t5.fst.len : Int) == 0)) w16)
            (R (.bool false) w16))
         (J6 (some ()) w10)))
     fun t7 w8 =>
     RunK .sl P (Instr.buildSlice T_sl_uint8 0 #[]) w8 fun (s18 : Sl) w19 =>
      RunK .sl P (Builtin.append_ #[T_sl_uint8, T_sl_uint8] T_sl_uint8 #[s18.v, t5.fst.v]) w19 fun (s20 : Sl) w21 =>
       CallP P F_wire_Decode [s20.v] w21 fun (v22 : Value) w23 =>
        TupP [.val, (.int .i64)] v22 fun (t24 : Value × Int × Unit) =>
         RunK .addr P (Instr.alloc T_api_Msg true (.tuple #[])) w23 fun (a25 : Addr) w26 =>
          StoreP P T_api_Msg (.pointer (some a25)) t24.1 w26 fun w27 =>
           RunQ .val P (Instr.loadAt T_api_Msg (.pointer (some a25))) w27 fun (v28 : Value) =>
            CallP P F_wire_Encode [v28] w27 fun (v29 : Value) w30 =>
             TupP [.sl, (.int .i64)] v29 fun (t31 : Sl × Int × Unit) =>
              ∃ S32 : World → Prop, (S32 w30.drew) ∧
                ifB (t24.snd.fst == 0)
                (ifB (t31.snd.fst == 0)
                (CallP P F_ref03_Same [t5.fst.v, t31.fst.v] w30.drew fun (v33 : Value) w34 =>
                TyP .bool v33 fun (b35 : Bool) =>
                (S32 w34) ∧
                ifB b35
                (HRun S32 .val P (Instr.loadAt T_api_Msg (.pointer (some a25))) fun (v36 : Value) =>
                HRun S32 .val P (Instr.loadAt T_api_Msg (.pointer (some a0))) fun (v37 : Value) =>
                CallP P F_ref17_SameMsg [v36, v37] w34 fun (v38 : Value) w39 =>
                TyP .bool v38 fun (b40 : Bool) =>
                (S32 w39) ∧
                ifB b40
                (HRun S32 .val P (Instr.loadAt T_api_Msg (.pointer (some a25))) fun (v41 : Value) =>
                HRun S32 .val P (Instr.loadAt T_api_Msg (.pointer (some a25))) fun (v42 : Value) =>
                CallP P F_ref17_Bare [v42] w39 fun (v43 : Value) w44 =>
                TyP .val v43 fun (v45 : Value) =>
                (S32 w44) ∧
                CallP P F_ref17_SameMsg [v41, v45] w44 fun (v46 : Value) w47 =>
                TyP .bool v46 fun (b48 : Bool) =>
                (S32 w47) ∧
                ifB b48
                (HRun S32 .val P (Instr.loadAt T_api_Msg (.pointer (some a25))) fun (v49 : Value) =>
                HRun S32 .val P (Instr.loadAt T_api_Msg (.pointer (some a0))) fun (v50 : Value) =>
                CallP P F_ref17_Bare [v50] w47 fun (v51 : Value) w52 =>
                TyP .val v51 fun (v53 : Value) =>
                (S32 w52) ∧
                CallP P F_law17_bare [v49, v53] w52 fun (v54 : Value) w55 =>
                TyP .bool v54 fun (b56 : Bool) =>
                (S32 w55) ∧
                R (.bool b56) w55)
                (R (.bool false) w47))
                (R (.bool false) w39))
                (R (.bool false) w34))
                (R (.bool false) w30.drew))
                (R (.bool false) w30.drew)
def an_law17_WireBack : Ann := ⟨[(4, [])], [], []⟩
theorem e_law17_WireBack (R : Value → World → Prop) (x0 : Value) (w : World) : denF P an_law17_WireBack Try.f4 [x0] w R = S_law17_WireBack R x0 w := by kernel_rfl
theorem c_law17_WireBack {R : Value → World → Prop} {x0 : Value} {w : World} (h : S_law17_WireBack R x0 w) : CallP P F_law17_WireBack [x0] w R := calls_of_denF (an := an_law17_WireBack) Try.func4 (by rw [e_law17_WireBack]; exact h)


/-- penstock/penstocklaw17.WireReads -/
def S_law17_WireReads (R : Value → World → Prop) (x0 : Sl) (w : World) : Prop :=
 RunK .sl P (Instr.buildSlice T_sl_uint8 0 #[]) w fun (s0 : Sl) w1 =>
 RunK .sl P (Builtin.append_ #[T_sl_uint8, T_sl_uint8] T_sl_uint8 #[s0.v, x0.v]) w1 fun (s2 : Sl) w3 =>
  CallP P F_wire_Decode [s2.v] w3 fun (v4 : Value) w5 =>
   TupP [.val, (.int .i64)] v4 fun (t6 : Value × Int × Unit) =>
    RunK .addr P (Instr.alloc T_api_Msg true (.tuple #[])) w5 fun (a7 : Addr) w8 =>
     StoreP P T_api_Msg (.pointer (some a7)) t6.1 w8 fun w9 =>
      JoinP (T := Unit) (fun J10 =>
       CallP P F_law17_awake [] w9 fun (v13 : Value) w14 =>
        TyP .bool v13 fun (b15 : Bool) =>
         ifB (!b15)
          (R (.bool false) w14)
          (CallP P F_ref03_Same [x0.v, s2.v] w14 fun (v16 : Value) w17 =>
           TyP .bool v16 fun (b18 : Bool) =>
            ifB (!b18)
             (R (.bool false) w17)
             (J10 (some ()) w17)))
       fun t11 w12 =>
       ifB (t6.snd.fst != 0)
        (RunQ (.int .i64) P (Instr.loadAt T_int (.pointer (some (Go.Addr.add a7 0)))) w12 fun (n19 : Int) =>
         ifB (n19 == 0)
          (RunQ (.int .i64) P (Instr.loadAt T_int (.pointer (some (Go.Addr.add a7 1)))) w12 fun (n20 : Int) =>
           ifB (n20 == 0)
            (RunQ .sl P (Instr.loadAt T_sl_int (.pointer (some (Go.Addr.add a7 55)))) w12 fun (s21 : Sl) =>
             ifB ((↑s21.len : Int) == 0)
              (RunQ .sl P (Instr.loadAt T_sl_api_Batch (.pointer (some (Go.Addr.add a7 56)))) w12 fun (s22 : Sl) =>
               ifB ((↑s22.len : Int) == 0)
                (RunQ (.int .i64) P (Instr.loadAt T_int (.pointer (some ((Go.Addr.add a7 5).add 0)))) w12 fun (n23 : Int) =>
                ifB (n23 == 0)
                (RunQ (.int .i64) P (Instr.loadAt T_int (.pointer (some ((Go.Addr.add a7 30).add 0)))) w12 fun (n24 : Int) =>
                R (.bool (n24 == 0)) w12)
                (R (.bool false) w12))
                (R (.bool false) w12))
              (R (.bool false) w12))
            (R (.bool false) w12))
          (R (.bool false) w12))
        (RunQ .val P (Instr.loadAt T_api_Msg (.pointer (some a7))) w12 fun (v25 : Value) =>
         CallP P F_wire_Encode [v25] w12 fun (v26 : Value) w27 =>
          TupP [.sl, (.int .i64)] v26 fun (t28 : Sl × Int × Unit) =>
           ifB (t28.snd.fst == 0)
            (CallP P F_ref03_Same [t28.fst.v, x0.v] w27 fun (v29 : Value) w30 =>
             TyP .bool v29 fun (b31 : Bool) =>
              R (.bool b31) w30)
            (R (.bool false) w27))
def an_law17_WireReads : Ann := ⟨[(5, [])], [], []⟩
theorem e_law17_WireReads (R : Value → World → Prop) (x0 : Sl) (w : World) : denF P an_law17_WireReads Try.f5 [x0.v] w R = S_law17_WireReads R x0 w := by kernel_rfl
theorem c_law17_WireReads {R : Value → World → Prop} {x0 : Sl} {w : World} (h : S_law17_WireReads R x0 w) : CallP P F_law17_WireReads [x0.v] w R := calls_of_denF (an := an_law17_WireReads) Try.func5 (by rw [e_law17_WireReads]; exact h)


/-- penstock/penstocklaw17.WireCut -/
def S_law17_WireCut (R : Value → World → Prop) (x0 : Value) (x1 : Int) (x2 : Sl) (w : World) : Prop :=
 RunK .addr P (Instr.box T_api_Msg x0) w fun (a0 : Addr) w1 =>
 RunQ .val P (Instr.loadAt T_api_Msg (.pointer (some a0))) w1 fun (v2 : Value) =>
  CallP P F_wire_Encode [v2] w1 fun (v3 : Value) w4 =>
   TupP [.sl, (.int .i64)] v3 fun (t5 : Sl × Int × Unit) =>
    JoinP (T := Unit) (fun J6 =>
     CallP P F_law17_awake [] w4 fun (v9 : Value) w10 =>
      TyP .bool v9 fun (b11 : Bool) =>
       ifB (!b11)
        (CallP P F_law17_awake [] w10 fun (v12 : Value) w13 =>
         TyP .bool v12 fun (b14 : Bool) =>
          ifB b14
           (R (.bool (t5.snd.fst != 0)) w13)
           (R (.bool false) w13))
        (ifB (t5.snd.fst != 0)
         (CallP P F_law17_awake [] w10 fun (v15 : Value) w16 =>
          TyP .bool v15 fun (b17 : Bool) =>
           ifB b17
            (R (.bool (t5.snd.fst != 0)) w16)
            (R (.bool false) w16))
         (ifB ((↑t5.fst.len : Int) == 0)
          (CallP P F_law17_awake [] w10 fun (v18 : Value) w19 =>
           TyP .bool v18 fun (b20 : Bool) =>
            ifB b20
             (R (.bool (t5.snd.fst != 0)) w19)
             (R (.bool false) w19))
          (J6 (some ()) w10))))
     fun t7 w8 =>
     RunK .sl P (Instr.buildSlice T_sl_uint8 0 #[]) w8 fun (s21 : Sl) w22 =>
      RunK (.int .i64) P (do (eqGuard .rem T_int (.tmp 0) (.tmp 0) (.int .i64 (IntKind.i64.wrap x1)) (.int .i64 ((↑t5.fst.len : Int)))); (binOp .rem T_int (.int .i64 (IntKind.i64.wrap x1)) (.int .i64 ((↑t5.fst.len : Int))))) w22 fun (n23 : Int) w24 =>
       RunQ .sl P (Instr.sliceAt T_sl_uint8 t5.fst.v none (some (.int .i64 n23)) none) w24 fun (s25 : Sl) =>
        RunK .sl P (Builtin.append_ #[T_sl_uint8, T_sl_uint8] T_sl_uint8 #[s21.v, s25.v]) w24 fun (s26 : Sl) w27 =>
         CallP P F_wire_Decode [s26.v] w27 fun (v28 : Value) w29 =>
          TupP [.val, (.int .i64)] v28 fun (t30 : Value × Int × Unit) =>
           RunK .addr P (Instr.alloc T_api_Msg true (.tuple #[])) w29 fun (a31 : Addr) w32 =>
            StoreP P T_api_Msg (.pointer (some a31)) t30.1 w32 fun w33 =>
             RunK .sl P (Instr.buildSlice T_sl_uint8 0 #[]) w33 fun (s34 : Sl) w35 =>
              RunK .sl P (Builtin.append_ #[T_sl_uint8, T_sl_uint8] T_sl_uint8 #[s34.v, t5.fst.v]) w35 fun (s36 : Sl) w37 =>
               RunK .sl P (Builtin.append_ #[T_sl_uint8, T_sl_uint8] T_sl_uint8 #[s36.v, x2.v]) w37 fun (s38 : Sl) w39 =>
                CallP P F_wire_Decode [s38.v] w39 fun (v40 : Value) w41 =>
                TupP [.val, (.int .i64)] v40 fun (t42 : Value × Int × Unit) =>
                RunK .addr P (Instr.alloc T_api_Msg true (.tuple #[])) w41 fun (a43 : Addr) w44 =>
                StoreP P T_api_Msg (.pointer (some a43)) t42.1 w44 fun w45 =>
                ifB (t30.snd.fst != 0)
                (R (.bool ((t42.snd.fst == 0) == ((↑x2.len : Int) == 0))) w45)
                (R (.bool false) w45)
def an_law17_WireCut : Ann := ⟨[(4, [])], [], []⟩
theorem e_law17_WireCut (R : Value → World → Prop) (x0 : Value) (x1 : Int) (x2 : Sl) (w : World) : denF P an_law17_WireCut Try.f6 [x0, .int .u16 x1, x2.v] w R = S_law17_WireCut R x0 x1 x2 w := by kernel_rfl
theorem c_law17_WireCut {R : Value → World → Prop} {x0 : Value} {x1 : Int} {x2 : Sl} {w : World} (h : S_law17_WireCut R x0 x1 x2 w) : CallP P F_law17_WireCut [x0, .int .u16 x1, x2.v] w R := calls_of_denF (an := an_law17_WireCut) Try.func6 (by rw [e_law17_WireCut]; exact h)


/-- penstock/penstocklaw17.WireApart -/
def S_law17_WireApart (R : Value → World → Prop) (x0 : Value) (x1 : Value) (w : World) : Prop :=
 RunK .addr P (Instr.box T_api_Msg x0) w fun (a0 : Addr) w1 =>
 RunK .addr P (Instr.box T_api_Msg x1) w1 fun (a2 : Addr) w3 =>
  RunQ .val P (Instr.loadAt T_api_Msg (.pointer (some a0))) w3 fun (v4 : Value) =>
   CallP P F_wire_Encode [v4] w3 fun (v5 : Value) w6 =>
    TupP [.sl, (.int .i64)] v5 fun (t7 : Sl × Int × Unit) =>
     RunQ .val P (Instr.loadAt T_api_Msg (.pointer (some a2))) w6 fun (v8 : Value) =>
      CallP P F_wire_Encode [v8] w6 fun (v9 : Value) w10 =>
       TupP [.sl, (.int .i64)] v9 fun (t11 : Sl × Int × Unit) =>
        JoinP (T := Unit) (fun J12 =>
         CallP P F_law17_awake [] w10 fun (v15 : Value) w16 =>
          TyP .bool v15 fun (b17 : Bool) =>
           ifB (!b17)
            (CallP P F_law17_awake [] w16 fun (v18 : Value) w19 =>
             TyP .bool v18 fun (b20 : Bool) =>
              R (.bool b20) w19)
            (ifB (t7.snd.fst != 0)
             (CallP P F_law17_awake [] w16 fun (v21 : Value) w22 =>
              TyP .bool v21 fun (b23 : Bool) =>
               R (.bool b23) w22)
             (ifB (t11.snd.fst != 0)
              (CallP P F_law17_awake [] w16 fun (v24 : Value) w25 =>
               TyP .bool v24 fun (b26 : Bool) =>
                R (.bool b26) w25)
              (J12 (some ()) w16))))
         fun t13 w14 =>
         ∃ S27 : World → Prop, (S27 w14.drew) ∧
           HRun S27 .val P (Instr.loadAt T_api_Msg (.pointer (some a0))) fun (v28 : Value) =>
            HRun S27 .val P (Instr.loadAt T_api_Msg (.pointer (some a2))) fun (v29 : Value) =>
             CallP P F_ref03_Same [t7.fst.v, t11.fst.v] w14.drew fun (v30 : Value) w31 =>
              TyP .bool v30 fun (b32 : Bool) =>
               (S27 w31) ∧
                CallP P F_ref17_SameMsg [v28, v29] w31 fun (v33 : Value) w34 =>
                TyP .bool v33 fun (b35 : Bool) =>
                (S27 w34) ∧
                ifB (b32 == b35)
                (HRun S27 (.int .i64) P (Instr.loadAt T_int (.pointer (some (Go.Addr.add a0 0)))) fun (n36 : Int) =>
                HRun S27 (.int .i64) P (Instr.loadAt T_int (.pointer (some (Go.Addr.add a2 0)))) fun (n37 : Int) =>
                ifB (n36 == n37)
                (HRun S27 (.int .i64) P (Instr.loadAt T_int (.pointer (some (Go.Addr.add a0 1)))) fun (n38 : Int) =>
                HRun S27 (.int .i64) P (Instr.loadAt T_int (.pointer (some (Go.Addr.add a2 1)))) fun (n39 : Int) =>
                ifB (n38 == n39)
                (HRun S27 (.int .i64) P (Instr.loadAt T_int (.pointer (some (Go.Addr.add a0 2)))) fun (n40 : Int) =>
                HRun S27 (.int .i64) P (Instr.loadAt T_int (.pointer (some (Go.Addr.add a2 2)))) fun (n41 : Int) =>
                ifB (n40 == n41)
                (HRun S27 (.int .i64) P (Instr.loadAt T_int (.pointer (some (Go.Addr.add a0 3)))) fun (n42 : Int) =>
                HRun S27 (.int .i64) P (Instr.loadAt T_int (.pointer (some (Go.Addr.add a2 3)))) fun (n43 : Int) =>
                ifB (n42 == n43)
                (R (.bool true) w34)
                (CallP P F_ref03_Same [t7.fst.v, t11.fst.v] w34 fun (v44 : Value) w45 =>
                TyP .bool v44 fun (b46 : Bool) =>
                (S27 w45) ∧
                R (.bool (!b46)) w45))
                (CallP P F_ref03_Same [t7.fst.v, t11.fst.v] w34 fun (v47 : Value) w48 =>
                TyP .bool v47 fun (b49 : Bool) =>
                (S27 w48) ∧
                R (.bool (!b49)) w48))
                (CallP P F_ref03_Same [t7.fst.v, t11.fst.v] w34 fun (v50 : Value) w51 =>
                TyP .bool v50 fun (b52 : Bool) =>
                (S27 w51) ∧
                R (.bool (!b52)) w51))
                (CallP P F_ref03_Same [t7.fst.v, t11.fst.v] w34 fun (v53 : Value) w54 =>
                TyP .bool v53 fun (b55 : Bool) =>
                (S27 w54) ∧
                R (.bool (!b55)) w54))
                (R (.bool false) w34)
def an_law17_WireApart : Ann := ⟨[(5, [])], [], []⟩
theorem e_law17_WireApart (R : Value → World → Prop) (x0 : Value) (x1 : Value) (w : World) : denF P an_law17_WireApart Try.f7 [x0, x1] w R = S_law17_WireApart R x0 x1 w := by kernel_rfl
theorem c_law17_WireApart {R : Value → World → Prop} {x0 : Value} {x1 : Value} {w : World} (h : S_law17_WireApart R x0 x1 w) : CallP P F_law17_WireApart [x0, x1] w R := calls_of_denF (an := an_law17_WireApart) Try.func7 (by rw [e_law17_WireApart]; exact h)


/-- penstock/penstocklaw17.WireKinds -/
def S_law17_WireKinds (R : Value → World → Prop) (x0 : Int) (x1 : Value) (w : World) : Prop :=
 RunK .addr P (Instr.box T_api_Msg x1) w fun (a0 : Addr) w1 =>
 StoreP P T_int (.pointer (some (Go.Addr.add a0 0))) (.int .i64 x0) w1 fun w2 =>
  RunQ .val P (Instr.loadAt T_api_Msg (.pointer (some a0))) w2 fun (v3 : Value) =>
   CallP P F_wire_Encode [v3] w2 fun (v4 : Value) w5 =>
    TupP [.sl, (.int .i64)] v4 fun (t6 : Sl × Int × Unit) =>
     CallP P F_law17_awake [] w5 fun (v7 : Value) w8 =>
      TyP .bool v7 fun (b9 : Bool) =>
       ifB (!b9)
        (R (.bool false) w8)
        (JoinP (T := Unit) (fun J10 =>
         ifB (decide (x0 < 1))
          (CallP P F_ref03_Int [(.int .i64 x0)] w8 fun (v13 : Value) w14 =>
           TyP .sl v13 fun (s15 : Sl) =>
            RunK .sl P (Instr.buildSlice T_sl_uint8 4 #[(0, (.int .u8 0)), (1, (.int .u8 0)), (2, (.int .u8 0)), (3, (.int .u8 0))]) w14 fun (s16 : Sl) w17 =>
             RunK .sl P (Builtin.append_ #[T_sl_uint8, T_sl_uint8] T_sl_uint8 #[s15.v, s16.v]) w17 fun (s18 : Sl) w19 =>
              CallP P F_wire_Decode [s18.v] w19 fun (v20 : Value) w21 =>
               TupP [.val, (.int .i64)] v20 fun (t22 : Value × Int × Unit) =>
                RunK .addr P (Instr.alloc T_api_Msg true (.tuple #[])) w21 fun (a23 : Addr) w24 =>
                StoreP P T_api_Msg (.pointer (some a23)) t22.1 w24 fun w25 =>
                ifB (t6.snd.fst == 1)
                (ifB ((↑t6.fst.len : Int) == 0)
                (R (.bool (t22.snd.fst != 0)) w25)
                (R (.bool false) w25))
                (R (.bool false) w25))
          (ifB (decide (x0 > 15))
           (CallP P F_ref03_Int [(.int .i64 x0)] w8 fun (v26 : Value) w27 =>
            TyP .sl v26 fun (s28 : Sl) =>
             RunK .sl P (Instr.buildSlice T_sl_uint8 4 #[(0, (.int .u8 0)), (1, (.int .u8 0)), (2, (.int .u8 0)), (3, (.int .u8 0))]) w27 fun (s29 : Sl) w30 =>
              RunK .sl P (Builtin.append_ #[T_sl_uint8, T_sl_uint8] T_sl_uint8 #[s28.v, s29.v]) w30 fun (s31 : Sl) w32 =>
               CallP P F_wire_Decode [s31.v] w32 fun (v33 : Value) w34 =>
                TupP [.val, (.int .i64)] v33 fun (t35 : Value × Int × Unit) =>
                RunK .addr P (Instr.alloc T_api_Msg true (.tuple #[])) w34 fun (a36 : Addr) w37 =>
                StoreP P T_api_Msg (.pointer (some a36)) t35.1 w37 fun w38 =>
                ifB (t6.snd.fst == 1)
                (ifB ((↑t6.fst.len : Int) == 0)
                (R (.bool (t35.snd.fst != 0)) w38)
                (R (.bool false) w38))
                (R (.bool false) w38))
           (J10 (some ()) w8)))
         fun t11 w12 =>
         ifB (t6.snd.fst != 0)
          (ifB ((↑t6.fst.len : Int) == 0)
           (R (.bool true) w12)
           (ifB (t6.snd.fst == 0)
            (RunQ .addr P (Instr.indexAt T_sl_uint8 t6.fst.v (.int .i64 0)) w12 fun (a39 : Addr) =>
             RunQ (.int .u8) P (Instr.loadAt T_uint8 (.pointer (some a39))) w12 fun (n40 : Int) =>
              R (.bool (IntKind.i64.wrap n40 == IntKind.i64.wrap (2 * x0))) w12)
            (R (.bool false) w12)))
          (ifB (t6.snd.fst == 0)
           (RunQ .addr P (Instr.indexAt T_sl_uint8 t6.fst.v (.int .i64 0)) w12 fun (a41 : Addr) =>
            RunQ (.int .u8) P (Instr.loadAt T_uint8 (.pointer (some a41))) w12 fun (n42 : Int) =>
             R (.bool (IntKind.i64.wrap n42 == IntKind.i64.wrap (2 * x0))) w12)
           (R (.bool false) w12)))
def an_law17_WireKinds : Ann := ⟨[(8, [])], [], []⟩
theorem e_law17_WireKinds (R : Value → World → Prop) (x0 : Int) (x1 : Value) (w : World) : denF P an_law17_WireKinds Try.f8 [.int .i64 x0, x1] w R = S_law17_WireKinds R x0 x1 w := by kernel_rfl
theorem c_law17_WireKinds {R : Value → World → Prop} {x0 : Int} {x1 : Value} {w : World} (h : S_law17_WireKinds R x0 x1 w) : CallP P F_law17_WireKinds [.int .i64 x0, x1] w R := calls_of_denF (an := an_law17_WireKinds) Try.func8 (by rw [e_law17_WireKinds]; exact h)


/-- penstock/penstocklaw17.awake -/
def S_law17_awake (R : Value → World → Prop) (w : World) : Prop :=
 CallP P F_wire_Encode [(.agg #[(.int .i64 14), (.int .i64 3), (.int .i64 0), (.int .i64 1), (.int .i64 0), (.int .i64 0), (.int .i64 0), (.int .i64 0), (.int .i64 0), (.int .i64 0), (.int .i64 0), (.int .i64 0), (.bool false), (.slice none 0 0), (.slice none 0 0), (.int .i64 0), (.int .i64 0), (.int .i64 0), (.int .i64 0), (.int .i64 0), (.int .i64 0), (.int .i64 0), (.int .i64 0), (.int .i64 0), (.bool false), (.int .i64 0), (.int .i64 0), (.int .i64 0), (.int .i64 0), (.slice none 0 0), (.int .i64 0), (.int .i64 0), (.int .i64 0), (.int .i64 0), (.int .i64 0), (.slice none 0 0), (.int .i64 0), (.int .i64 0), (.int .u64 0), (.int .i64 0), (.int .i64 0), (.bool false), (.bool false), (.bool false), (.slice none 0 0), (.int .i64 2), (.int .i64 0), (.int .i64 0), (.int .i64 0), (.int .u64 0), (.int .i64 0), (.bool false), (.int .i64 1), (.int .i64 0), (.int .i64 0), (.slice none 0 0), (.slice none 0 0), (.slice none 0 0), (.int .i64 0)])] w fun (v0 : Value) w1 =>
 TupP [.sl, (.int .i64)] v0 fun (t2 : Sl × Int × Unit) =>
  CallP P F_wire_Decode [t2.fst.v] w1 fun (v3 : Value) w4 =>
   TupP [.val, (.int .i64)] v3 fun (t5 : Value × Int × Unit) =>
    RunK .addr P (Instr.alloc T_api_Msg true (.tuple #[])) w4 fun (a6 : Addr) w7 =>
     StoreP P T_api_Msg (.pointer (some a6)) t5.1 w7 fun w8 =>
      ifB (t2.snd.fst == 0)
       (ifB (t5.snd.fst == 0)
        (ifB (decide ((↑t2.fst.len : Int) > 5))
         (RunQ .addr P (Instr.indexAt T_sl_uint8 t2.fst.v (.int .i64 0)) w8 fun (a9 : Addr) =>
          RunQ (.int .u8) P (Instr.loadAt T_uint8 (.pointer (some a9))) w8 fun (n10 : Int) =>
           ifB (n10 == 28)
            (RunQ .addr P (Instr.indexAt T_sl_uint8 t2.fst.v (.int .i64 1)) w8 fun (a11 : Addr) =>
             RunQ (.int .u8) P (Instr.loadAt T_uint8 (.pointer (some a11))) w8 fun (n12 : Int) =>
              ifB (n12 == 6)
               (RunQ (.int .i64) P (Instr.loadAt T_int (.pointer (some (Go.Addr.add a6 0)))) w8 fun (n13 : Int) =>
                ifB (n13 == 14)
                (RunQ (.int .i64) P (Instr.loadAt T_int (.pointer (some (Go.Addr.add a6 1)))) w8 fun (n14 : Int) =>
                ifB (n14 == 3)
                (RunQ (.int .i64) P (Instr.loadAt T_int (.pointer (some (Go.Addr.add a6 52)))) w8 fun (n15 : Int) =>
                ifB (n15 == 1)
                (RunQ (.int .i64) P (Instr.loadAt T_int (.pointer (some (Go.Addr.add a6 45)))) w8 fun (n16 : Int) =>
                R (.bool (n16 == 2)) w8)
                (R (.bool false) w8))
                (R (.bool false) w8))
                (R (.bool false) w8))
               (R (.bool false) w8))
            (R (.bool false) w8))
         (R (.bool false) w8))
        (R (.bool false) w8))
       (R (.bool false) w8)
def an_law17_awake : Ann := ⟨[], [], []⟩
theorem e_law17_awake (R : Value → World → Prop) (w : World) : denF P an_law17_awake Try.f10 [] w R = S_law17_awake R  w := by kernel_rfl
theorem c_law17_awake {R : Value → World → Prop} {w : World} (h : S_law17_awake R  w) : CallP P F_law17_awake [] w R := calls_of_denF (an := an_law17_awake) Try.func10 (by rw [e_law17_awake]; exact h)


/-- penstock/wire.Encode -/
def S_wire_Encode (R : Value → World → Prop) (x0 : Value) (w : World) : Prop :=
 RunK .addr P (Instr.box T_api_Msg x0) w fun (a0 : Addr) w1 =>
 JoinP (T := Unit) (fun J2 =>
  RunQ (.int .i64) P (Instr.loadAt T_int (.pointer (some (Go.Addr.add a0 0)))) w1 fun (n5 : Int) =>
   ifB (decide (n5 < 1))
    (R (.tuple #[(.slice none 0 0), (.int .i64 1)]) w1)
    (RunQ (.int .i64) P (Instr.loadAt T_int (.pointer (some (Go.Addr.add a0 0)))) w1 fun (n6 : Int) =>
     ifB (decide (n6 > 15))
      (R (.tuple #[(.slice none 0 0), (.int .i64 1)]) w1)
      (J2 (some ()) w1)))
  fun t3 w4 =>
  CallP P F_codec_NewWriter [] w4 fun (v7 : Value) w8 =>
   TyP .ptr v7 fun (p9 : Option Addr) =>
    RunK .addr P (Instr.box T_wire_writer (.agg #[(.pointer p9), (.int .i64 0)])) w8 fun (a10 : Addr) w11 =>
     RunQ (.int .i64) P (Instr.loadAt T_int (.pointer (some (Go.Addr.add a0 0)))) w11 fun (n12 : Int) =>
      RunQ (.int .i64) P (Instr.loadAt T_int (.pointer (some (Go.Addr.add a0 1)))) w11 fun (n13 : Int) =>
       RunQ (.int .i64) P (Instr.loadAt T_int (.pointer (some (Go.Addr.add a0 2)))) w11 fun (n14 : Int) =>
        RunQ (.int .i64) P (Instr.loadAt T_int (.pointer (some (Go.Addr.add a0 3)))) w11 fun (n15 : Int) =>
         RunQ (.int .i64) P (Instr.loadAt T_api_Errno (.pointer (some (Go.Addr.add a0 4)))) w11 fun (n16 : Int) =>
          RunK .sl P (Instr.buildSlice T_sl_int 5 #[(0, (.int .i64 n12)), (1, (.int .i64 n13)), (2, (.int .i64 n14)), (3, (.int .i64 n15)), (4, (.int .i64 n16))]) w11 fun (s17 : Sl) w18 =>
           CallP P F_wire_writer_ints [(.pointer (some a10)), s17.v] w18 fun (v19 : Value) w20 =>
            TupP [] v19 fun (t21 : Unit) =>
             RunQ .val P (Instr.loadAt T_api_Msg (.pointer (some a0))) w20 fun (v22 : Value) =>
              CallP P F_wire_writer_rest [(.pointer (some a10)), v22] w20 fun (v23 : Value) w24 =>
               TupP [] v23 fun (t25 : Unit) =>
                RunQ .ptr P (Instr.loadAt T_p_codec_Writer (.pointer (some (Go.Addr.add a10 0)))) w24 fun (p26 : Option Addr) =>
                CallP P F_codec_Writer_Out [(.pointer p26)] w24 fun (v27 : Value) w28 =>
                TupP [.sl, (.int .i64)] v27 fun (t29 : Sl × Int × Unit) =>
                RunQ (.int .i64) P (Instr.loadAt T_api_Errno (.pointer (some (Go.Addr.add a10 1)))) w28 fun (n30 : Int) =>
                ifB (n30 != 0)
                (RunQ (.int .i64) P (Instr.loadAt T_api_Errno (.pointer (some (Go.Addr.add a10 1)))) w28.drew fun (n31 : Int) =>
                R (.tuple #[(.slice none 0 0), (.int .i64 n31)]) w28.drew)
                (R (.tuple #[t29.fst.v, (.int .i64 t29.snd.fst)]) w28)
def an_wire_Encode : Ann := ⟨[(3, [])], [], []⟩
theorem e_wire_Encode (R : Value → World → Prop) (x0 : Value) (w : World) : denF P an_wire_Encode Try.f11 [x0] w R = S_wire_Encode R x0 w := by kernel_rfl
theorem c_wire_Encode {R : Value → World → Prop} {x0 : Value} {w : World} (h : S_wire_Encode R x0 w) : CallP P F_wire_Encode [x0] w R := calls_of_denF (an := an_wire_Encode) Try.func11 (by rw [e_wire_Encode]; exact h)


/-- penstock/penstocklaw17.bare -/
def S_law17_bare (R : Value → World → Prop) (x0 : Value) (x1 : Value) (w : World) : Prop :=
 RunK .addr P (Instr.box T_api_Msg x0) w fun (a0 : Addr) w1 =>
 RunK .addr P (Instr.box T_api_Msg x1) w1 fun (a2 : Addr) w3 =>
  RunQ (.int .i64) P (Instr.loadAt T_int (.pointer (some (Go.Addr.add a0 0)))) w3 fun (n4 : Int) =>
   RunQ (.int .i64) P (Instr.loadAt T_int (.pointer (some (Go.Addr.add a2 0)))) w3 fun (n5 : Int) =>
    ifB (n4 == n5)
     (RunQ (.int .i64) P (Instr.loadAt T_int (.pointer (some (Go.Addr.add a0 45)))) w3 fun (n6 : Int) =>
      RunQ (.int .i64) P (Instr.loadAt T_int (.pointer (some (Go.Addr.add a2 45)))) w3 fun (n7 : Int) =>
       ifB (n6 == n7)
        (RunQ (.int .i64) P (Instr.loadAt T_int (.pointer (some (Go.Addr.add a0 46)))) w3 fun (n8 : Int) =>
         RunQ (.int .i64) P (Instr.loadAt T_int (.pointer (some (Go.Addr.add a2 46)))) w3 fun (n9 : Int) =>
          ifB (n8 == n9)
           (RunQ (.int .i64) P (Instr.loadAt T_int (.pointer (some (Go.Addr.add a0 47)))) w3 fun (n10 : Int) =>
            RunQ (.int .i64) P (Instr.loadAt T_int (.pointer (some (Go.Addr.add a2 47)))) w3 fun (n11 : Int) =>
             ifB (n10 == n11)
              (RunQ (.int .i64) P (Instr.loadAt T_int (.pointer (some (Go.Addr.add a0 48)))) w3 fun (n12 : Int) =>
               RunQ (.int .i64) P (Instr.loadAt T_int (.pointer (some (Go.Addr.add a2 48)))) w3 fun (n13 : Int) =>
                ifB (n12 == n13)
                (RunQ (.int .u64) P (Instr.loadAt T_uint64 (.pointer (some (Go.Addr.add a0 49)))) w3 fun (n14 : Int) =>
                RunQ (.int .u64) P (Instr.loadAt T_uint64 (.pointer (some (Go.Addr.add a2 49)))) w3 fun (n15 : Int) =>
                ifB (n14 == n15)
                (RunQ (.int .i64) P (Instr.loadAt T_int (.pointer (some (Go.Addr.add a0 50)))) w3 fun (n16 : Int) =>
                RunQ (.int .i64) P (Instr.loadAt T_int (.pointer (some (Go.Addr.add a2 50)))) w3 fun (n17 : Int) =>
                ifB (n16 == n17)
                (RunQ .bool P (Instr.loadAt T_bool (.pointer (some (Go.Addr.add a0 51)))) w3 fun (b18 : Bool) =>
                RunQ .bool P (Instr.loadAt T_bool (.pointer (some (Go.Addr.add a2 51)))) w3 fun (b19 : Bool) =>
                ifB (b18 == b19)
                (RunQ (.int .i64) P (Instr.loadAt T_int (.pointer (some (Go.Addr.add a0 52)))) w3 fun (n20 : Int) =>
                RunQ (.int .i64) P (Instr.loadAt T_int (.pointer (some (Go.Addr.add a2 52)))) w3 fun (n21 : Int) =>
                ifB (n20 == n21)
                (RunQ (.int .i64) P (Instr.loadAt T_int (.pointer (some (Go.Addr.add a0 53)))) w3 fun (n22 : Int) =>
                RunQ (.int .i64) P (Instr.loadAt T_int (.pointer (some (Go.Addr.add a2 53)))) w3 fun (n23 : Int) =>
                ifB (n22 == n23)
                (RunQ (.int .i64) P (Instr.loadAt T_int (.pointer (some (Go.Addr.add a0 54)))) w3 fun (n24 : Int) =>
                RunQ (.int .i64) P (Instr.loadAt T_int (.pointer (some (Go.Addr.add a2 54)))) w3 fun (n25 : Int) =>
                ifB (n24 == n25)
                (RunQ (.int .i64) P (Instr.loadAt T_int (.pointer (some (Go.Addr.add a0 58)))) w3 fun (n26 : Int) =>
                RunQ (.int .i64) P (Instr.loadAt T_int (.pointer (some (Go.Addr.add a2 58)))) w3 fun (n27 : Int) =>
                ifB (n26 == n27)
                (RunQ .sl P (Instr.loadAt T_sl_int (.pointer (some (Go.Addr.add a0 55)))) w3 fun (s28 : Sl) =>
                RunQ .sl P (Instr.loadAt T_sl_int (.pointer (some (Go.Addr.add a2 55)))) w3 fun (s29 : Sl) =>
                ifB ((↑s28.len : Int) == (↑s29.len : Int))
                (RunQ .sl P (Instr.loadAt T_sl_api_Abort (.pointer (some (Go.Addr.add a0 57)))) w3 fun (s30 : Sl) =>
                RunQ .sl P (Instr.loadAt T_sl_api_Abort (.pointer (some (Go.Addr.add a2 57)))) w3 fun (s31 : Sl) =>
                ifB ((↑s30.len : Int) == (↑s31.len : Int))
                (RunQ .sl P (Instr.loadAt T_sl_api_Batch (.pointer (some (Go.Addr.add a0 56)))) w3 fun (s32 : Sl) =>
                RunQ .sl P (Instr.loadAt T_sl_api_Batch (.pointer (some (Go.Addr.add a2 56)))) w3 fun (s33 : Sl) =>
                ifB ((↑s32.len : Int) == (↑s33.len : Int))
                (RunQ (.int .i64) P (Instr.loadAt T_int (.pointer (some ((Go.Addr.add a0 5).add 0)))) w3 fun (n34 : Int) =>
                RunQ (.int .i64) P (Instr.loadAt T_int (.pointer (some ((Go.Addr.add a2 5).add 0)))) w3 fun (n35 : Int) =>
                ifB (n34 == n35)
                (RunQ .sl P (Instr.loadAt T_sl_api_Entry (.pointer (some ((Go.Addr.add a0 5).add 8)))) w3 fun (s36 : Sl) =>
                RunQ .sl P (Instr.loadAt T_sl_api_Entry (.pointer (some ((Go.Addr.add a2 5).add 8)))) w3 fun (s37 : Sl) =>
                ifB ((↑s36.len : Int) == (↑s37.len : Int))
                (RunQ .val P (Instr.loadAt T_api_FetchReq (.pointer (some (Go.Addr.add a0 15)))) w3 fun (v38 : Value) =>
                RunQ .val P (Instr.loadAt T_api_FetchReq (.pointer (some (Go.Addr.add a2 15)))) w3 fun (v39 : Value) =>
                RunQ .bool P (do (eqGuard .eql T_api_FetchReq (.tmp 0) (.tmp 0) v38 v39); (binOp .eql T_api_FetchReq v38 v39)) w3 fun (b40 : Bool) =>
                ifB b40
                (RunQ (.int .i64) P (Instr.loadAt T_int (.pointer (some ((Go.Addr.add a0 20).add 3)))) w3 fun (n41 : Int) =>
                RunQ (.int .i64) P (Instr.loadAt T_int (.pointer (some ((Go.Addr.add a2 20).add 3)))) w3 fun (n42 : Int) =>
                ifB (n41 == n42)
                (RunQ .sl P (Instr.loadAt T_sl_api_Batch (.pointer (some ((Go.Addr.add a0 20).add 9)))) w3 fun (s43 : Sl) =>
                RunQ .sl P (Instr.loadAt T_sl_api_Batch (.pointer (some ((Go.Addr.add a2 20).add 9)))) w3 fun (s44 : Sl) =>
                ifB ((↑s43.len : Int) == (↑s44.len : Int))
                (RunQ (.int .i64) P (Instr.loadAt T_int (.pointer (some ((Go.Addr.add a0 30).add 0)))) w3 fun (n45 : Int) =>
                RunQ (.int .i64) P (Instr.loadAt T_int (.pointer (some ((Go.Addr.add a2 30).add 0)))) w3 fun (n46 : Int) =>
                ifB (n45 == n46)
                (RunQ .sl P (Instr.loadAt T_sl_int (.pointer (some ((Go.Addr.add a0 30).add 5)))) w3 fun (s47 : Sl) =>
                RunQ .sl P (Instr.loadAt T_sl_int (.pointer (some ((Go.Addr.add a2 30).add 5)))) w3 fun (s48 : Sl) =>
                R (.bool ((↑s47.len : Int) == (↑s48.len : Int))) w3)
                (R (.bool false) w3))
                (R (.bool false) w3))
                (R (.bool false) w3))
                (R (.bool false) w3))
                (R (.bool false) w3))
                (R (.bool false) w3))
                (R (.bool false) w3))
                (R (.bool false) w3))
                (R (.bool false) w3))
                (R (.bool false) w3))
                (R (.bool false) w3))
                (R (.bool false) w3))
                (R (.bool false) w3))
                (R (.bool false) w3))
                (R (.bool false) w3))
                (R (.bool false) w3))
                (R (.bool false) w3))
              (R (.bool false) w3))
           (R (.bool false) w3))
        (R (.bool false) w3))
     (R (.bool false) w3)
def an_law17_bare : Ann := ⟨[], [], []⟩
theorem e_law17_bare (R : Value → World → Prop) (x0 : Value) (x1 : Value) (w : World) : denF P an_law17_bare Try.f16 [x0, x1] w R = S_law17_bare R x0 x1 w := by kernel_rfl
theorem c_law17_bare {R : Value → World → Prop} {x0 : Value} {x1 : Value} {w : World} (h : S_law17_bare R x0 x1 w) : CallP P F_law17_bare [x0, x1] w R := calls_of_denF (an := an_law17_bare) Try.func16 (by rw [e_law17_bare]; exact h)

end Go.Proofs.Ytokogdigfohbeaa
