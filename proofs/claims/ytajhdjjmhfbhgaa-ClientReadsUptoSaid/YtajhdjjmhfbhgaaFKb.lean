/- The functions of the program as predicates over worlds, written by a program of mine (PkPrint); each is held against the code by the kernel. -/
import Derived.Test.YtajhdjjmhfbhgaaN
namespace Go.Proofs.Ytajhdjjmhfbhgaa
open Go Go.Pk
/-- penstock/penstocklaw19.ClientChecks -/
def S_law19_ClientChecks (R : Value → World → Prop) (x0 : Value) (x1 : Int) (w : World) : Prop :=
 RunK .addr P (Instr.box T_api_Config x0) w fun (a0 : Addr) w1 =>
 RunQ .val P (Instr.loadAt T_api_Config (.pointer (some a0))) w1 fun (v2 : Value) =>
  CallP P F_client_Check [v2] w1 fun (v3 : Value) w4 =>
   TyP (.int .i64) v3 fun (n5 : Int) =>
    RunQ .val P (Instr.loadAt T_api_Config (.pointer (some a0))) w4 fun (v6 : Value) =>
     CallP P F_client_New [(.int .i64 x1), v6] w4 fun (v7 : Value) w8 =>
      TupP [.ptr, (.int .i64)] v7 fun (t9 : Option Addr × Int × Unit) =>
       JoinP (T := Bool × Unit) (fun J10 =>
        RunQ .val P (Instr.loadAt T_api_Config (.pointer (some a0))) w8 fun (v13 : Value) =>
         CallP P F_law19_bad [v13] w8 fun (v14 : Value) w15 =>
          TyP .bool v14 fun (b16 : Bool) =>
           ifB b16
            (J10 (some (true, ())) w15)
            (ifB (decide (x1 < 0))
             (J10 (some (true, ())) w15)
             (RunQ .sl P (Instr.loadAt T_sl_api_Program (.pointer (some (Go.Addr.add a0 3)))) w15 fun (s17 : Sl) =>
              J10 (some ((decide (x1 ≥ (↑s17.len : Int))), ())) w15)))
        fun t11 w12 =>
        CallP P F_law19_awake [] w12 fun (v18 : Value) w19 =>
         TyP .bool v18 fun (b20 : Bool) =>
          ifB b20
           (RunQ .val P (Instr.loadAt T_api_Config (.pointer (some a0))) w19 fun (v21 : Value) =>
            CallP P F_law19_bad [v21] w19 fun (v22 : Value) w23 =>
             TyP .bool v22 fun (b24 : Bool) =>
              ifB ((n5 == 1) == b24)
               (RunQ .val P (Instr.loadAt T_api_Config (.pointer (some a0))) w23 fun (v25 : Value) =>
                CallP P F_law19_bad [v25] w23 fun (v26 : Value) w27 =>
                TyP .bool v26 fun (b28 : Bool) =>
                ifB ((n5 == 0) == !b28)
                (ifB ((t9.snd.fst == 1) == t11.fst)
                (R (.bool (Option.isNone t9.fst == t11.fst)) w27)
                (R (.bool false) w27))
                (R (.bool false) w27))
               (R (.bool false) w23))
           (R (.bool false) w19)
def an_law19_ClientChecks : Ann := ⟨[(4, [(8, .bool)])], [], []⟩
theorem e_law19_ClientChecks (R : Value → World → Prop) (x0 : Value) (x1 : Int) (w : World) : denF P an_law19_ClientChecks Try.f3 [x0, .int .i64 x1] w R = S_law19_ClientChecks R x0 x1 w := by kernel_rfl
theorem c_law19_ClientChecks {R : Value → World → Prop} {x0 : Value} {x1 : Int} {w : World} (h : S_law19_ClientChecks R x0 x1 w) : CallP P F_law19_ClientChecks [x0, .int .i64 x1] w R := calls_of_denF (an := an_law19_ClientChecks) Try.func3 (by rw [e_law19_ClientChecks]; exact h)


/-- penstock/penstocklaw19.ClientEmpty -/
def S_law19_ClientEmpty (R : Value → World → Prop) (x0 : Sl) (w : World) : Prop :=
 LoopP (T := Sl × Int × Unit) (some (⟨none, 0, 0⟩, (0, ()))) w fun next0 t1 w2 =>
 ifB (decide (t1.snd.fst < (↑x0.len : Int)))
  (RunQ .addr P (Instr.indexAt T_sl_bool x0.v (.int .i64 t1.snd.fst)) w2 fun (a3 : Addr) =>
   RunQ .bool P (Instr.loadAt T_bool (.pointer (some a3))) w2 fun (b4 : Bool) =>
    ifB (decide (t1.snd.fst < 64))
     (JoinP (T := Int × Unit) (fun J5 =>
      ifB b4
       (J5 (some (2, ())) w2)
       (J5 (some (3, ())) w2))
      fun t6 w7 =>
      RunK .sl P (Instr.buildSlice T_sl_api_Op 1 #[(0, (.agg #[(.int .i64 t6.fst), (.int .i64 0), (.int .i64 0), (.int .i64 0), (.string (ByteArray.mk #[]))]))]) w7 fun (s8 : Sl) w9 =>
       RunK .sl P (Builtin.append_ #[T_sl_api_Op, T_sl_api_Op] T_sl_api_Op #[t1.fst.v, s8.v]) w9 fun (s10 : Sl) w11 =>
        next0 (some (s10, ((IntKind.i64.wrap (t1.snd.fst + 1)), ()))) w11)
     (next0 (some (t1.fst, ((IntKind.i64.wrap (t1.snd.fst + 1)), ()))) w2))
  (CallP P F_law19_one [t1.fst.v] w2 fun (v12 : Value) w13 =>
   TyP .val v12 fun (v14 : Value) =>
    CallP P F_client_New [(.int .i64 0), v14] w13 fun (v15 : Value) w16 =>
     TupP [.ptr, (.int .i64)] v15 fun (t17 : Option Addr × Int × Unit) =>
      JoinP (T := Unit) (fun J18 =>
       CallP P F_law19_awake [] w16 fun (v21 : Value) w22 =>
        TyP .bool v21 fun (b23 : Bool) =>
         ifB (!b23)
          (R (.bool false) w22)
          (ifB (Option.isNone t17.fst)
           (R (.bool false) w22)
           (ifB (t17.snd.fst != 0)
            (R (.bool false) w22)
            (J18 (some ()) w22))))
       fun t19 w20 =>
       LoopP (T := Int × Unit) (some (0, ())) w20 fun next24 t25 w26 =>
        ifB (decide (t25.fst < 70))
         (CallP P F_client_Client_Tick [(.pointer t17.fst)] w26 fun (v27 : Value) w28 =>
          TyP .sl v27 fun (s29 : Sl) =>
           ifB (decide ((↑s29.len : Int) > 0))
            (R (.bool false) w28)
            (next24 (some ((IntKind.i64.wrap (t25.fst + 1)), ())) w28))
         (CallP P F_client_Client_Trace [(.pointer t17.fst)] w26 fun (v30 : Value) w31 =>
          TyP .sl v30 fun (s32 : Sl) =>
           ifB ((↑s32.len : Int) != IntKind.i64.wrap ((↑t1.fst.len : Int) + 1))
            (R (.bool false) w31)
            (LoopP (T := Int × Unit) (some (0, ())) w31 fun next33 t34 w35 =>
             ifB (decide (t34.fst < (↑t1.fst.len : Int)))
              (RunQ .addr P (Instr.indexAt T_sl_api_Op t1.fst.v (.int .i64 t34.fst)) w35 fun (a36 : Addr) =>
               RunQ .val P (Instr.loadAt T_api_Op (.pointer (some a36))) w35 fun (v37 : Value) =>
                RunK .addr P (Instr.alloc T_api_Op true (.tuple #[])) w35 fun (a38 : Addr) w39 =>
                StoreP P T_api_Op (.pointer (some a38)) v37 w39 fun w40 =>
                JoinP (T := Int × Unit) (fun J41 =>
                RunQ (.int .i64) P (Instr.loadAt T_int (.pointer (some (Go.Addr.add a38 0)))) w40 fun (n44 : Int) =>
                ifB (n44 == 2)
                (J41 (some (2, ())) w40)
                (J41 (some (3, ())) w40))
                fun t42 w43 =>
                RunQ .addr P (Instr.indexAt T_sl_api_Seen s32.v (.int .i64 t34.fst)) w43 fun (a45 : Addr) =>
                RunQ .val P (Instr.loadAt T_api_Seen (.pointer (some a45))) w43 fun (v46 : Value) =>
                RunQ .bool P (do (eqGuard .neq T_api_Seen (.tmp 0) (.tmp 0) v46 (.agg #[(.int .i64 t42.fst), (.int .i64 0), (.int .i64 t34.fst), (.int .i64 0), (.int .i64 0), (.string (ByteArray.mk #[])), (.int .i64 0)])); (binOp .neq T_api_Seen v46 (.agg #[(.int .i64 t42.fst), (.int .i64 0), (.int .i64 t34.fst), (.int .i64 0), (.int .i64 0), (.string (ByteArray.mk #[])), (.int .i64 0)]))) w43 fun (b47 : Bool) =>
                ifB b47
                (R (.bool false) w43)
                (next33 (some ((IntKind.i64.wrap (t34.fst + 1)), ())) w43))
              (CallP P F_client_Client_State [(.pointer t17.fst)] w35 fun (v48 : Value) w49 =>
               TupP [(.int .i64), (.int .i64), .bool] v48 fun (t50 : Int × Int × Bool × Unit) =>
                ifB t50.snd.snd.fst
                (ifB (t50.fst == (↑t1.fst.len : Int))
                (ifB (t50.snd.fst == 0)
                (RunQ .addr P (Instr.indexAt T_sl_api_Seen s32.v (.int .i64 ((↑t1.fst.len : Int)))) w49 fun (a51 : Addr) =>
                RunQ (.int .i64) P (Instr.loadAt T_int (.pointer (some (Go.Addr.add a51 0)))) w49 fun (n52 : Int) =>
                ifB (n52 == 7)
                (RunQ .addr P (Instr.indexAt T_sl_api_Seen s32.v (.int .i64 ((↑t1.fst.len : Int)))) w49 fun (a53 : Addr) =>
                RunQ (.int .i64) P (Instr.loadAt T_int (.pointer (some (Go.Addr.add a53 2)))) w49 fun (n54 : Int) =>
                R (.bool (n54 == (↑t1.fst.len : Int))) w49)
                (R (.bool false) w49))
                (R (.bool false) w49))
                (R (.bool false) w49))
                (R (.bool false) w49)))))
def an_law19_ClientEmpty : Ann := ⟨[(9, [(6, (.int .i64))]), (28, [(13, (.int .i64))]), (14, [])], [(3, [(3, .sl), (19, (.int .i64))]), (15, [(9, (.int .i64))]), (23, [(67, (.int .i64))])], []⟩
theorem e_law19_ClientEmpty (R : Value → World → Prop) (x0 : Sl) (w : World) : denF P an_law19_ClientEmpty Try.f4 [x0.v] w R = S_law19_ClientEmpty R x0 w := by kernel_rfl
theorem c_law19_ClientEmpty {R : Value → World → Prop} {x0 : Sl} {w : World} (h : S_law19_ClientEmpty R x0 w) : CallP P F_law19_ClientEmpty [x0.v] w R := calls_of_denF (an := an_law19_ClientEmpty) Try.func4 (by rw [e_law19_ClientEmpty]; exact h)


/-- penstock/penstocklaw19.ClientNone -/
def S_law19_ClientNone (R : Value → World → Prop) (x0 : Value) (w : World) : Prop :=
 RunK .addr P (Instr.box T_api_Msg x0) w fun (a0 : Addr) w1 =>
 CallP P F_client_Client_Again [(.pointer none)] w1 fun (v2 : Value) w3 =>
  TupP [] v2 fun (t4 : Unit) =>
   CallP P F_client_Client_State [(.pointer none)] w3 fun (v5 : Value) w6 =>
    TupP [(.int .i64), (.int .i64), .bool] v5 fun (t7 : Int × Int × Bool × Unit) =>
     CallP P F_law19_awake [] w6 fun (v8 : Value) w9 =>
      TyP .bool v8 fun (b10 : Bool) =>
       ifB b10
        (CallP P F_client_Client_Tick [(.pointer none)] w9 fun (v11 : Value) w12 =>
         TyP .sl v11 fun (s13 : Sl) =>
          ifB ((↑s13.len : Int) == 0)
           (RunQ .val P (Instr.loadAt T_api_Msg (.pointer (some a0))) w12 fun (v14 : Value) =>
            CallP P F_client_Client_Handle [(.pointer none), v14] w12 fun (v15 : Value) w16 =>
             TyP .sl v15 fun (s17 : Sl) =>
              ifB ((↑s17.len : Int) == 0)
               (CallP P F_client_Client_Trace [(.pointer none)] w16 fun (v18 : Value) w19 =>
                TyP .sl v18 fun (s20 : Sl) =>
                ifB ((↑s20.len : Int) == 0)
                (ifB (t7.fst == 0)
                (ifB (t7.snd.fst == 0)
                (R (.bool (!t7.snd.snd.fst)) w19)
                (R (.bool false) w19))
                (R (.bool false) w19))
                (R (.bool false) w19))
               (R (.bool false) w16))
           (R (.bool false) w12))
        (R (.bool false) w9)
def an_law19_ClientNone : Ann := ⟨[], [], []⟩
theorem e_law19_ClientNone (R : Value → World → Prop) (x0 : Value) (w : World) : denF P an_law19_ClientNone Try.f8 [x0] w R = S_law19_ClientNone R x0 w := by kernel_rfl
theorem c_law19_ClientNone {R : Value → World → Prop} {x0 : Value} {w : World} (h : S_law19_ClientNone R x0 w) : CallP P F_law19_ClientNone [x0] w R := calls_of_denF (an := an_law19_ClientNone) Try.func8 (by rw [e_law19_ClientNone]; exact h)


/-- penstock/penstocklaw19.bad -/
def S_law19_bad (R : Value → World → Prop) (x0 : Value) (w : World) : Prop :=
 RunK .addr P (Instr.box T_api_Config x0) w fun (a0 : Addr) w1 =>
 JoinP (T := Unit) (fun J2 =>
  RunQ (.int .i64) P (Instr.loadAt T_int (.pointer (some (Go.Addr.add a0 0)))) w1 fun (n5 : Int) =>
   ifB (decide (n5 < 1))
    (R (.bool true) w1)
    (RunQ (.int .i64) P (Instr.loadAt T_int (.pointer (some (Go.Addr.add a0 0)))) w1 fun (n6 : Int) =>
     ifB (decide (n6 > 5))
      (R (.bool true) w1)
      (RunQ (.int .i64) P (Instr.loadAt T_int (.pointer (some (Go.Addr.add a0 1)))) w1 fun (n7 : Int) =>
       ifB (decide (n7 < 1))
        (R (.bool true) w1)
        (RunQ (.int .i64) P (Instr.loadAt T_int (.pointer (some (Go.Addr.add a0 1)))) w1 fun (n8 : Int) =>
         ifB (decide (n8 > 4))
          (R (.bool true) w1)
          (RunQ (.int .i64) P (Instr.loadAt T_int (.pointer (some (Go.Addr.add a0 2)))) w1 fun (n9 : Int) =>
           ifB (decide (n9 < 1))
            (R (.bool true) w1)
            (RunQ (.int .i64) P (Instr.loadAt T_int (.pointer (some (Go.Addr.add a0 2)))) w1 fun (n10 : Int) =>
             RunQ (.int .i64) P (Instr.loadAt T_int (.pointer (some (Go.Addr.add a0 0)))) w1 fun (n11 : Int) =>
              ifB (decide (n10 > n11))
               (R (.bool true) w1)
               (RunQ .sl P (Instr.loadAt T_sl_api_Program (.pointer (some (Go.Addr.add a0 3)))) w1 fun (s12 : Sl) =>
                ifB (decide ((↑s12.len : Int) > 4))
                (R (.bool true) w1)
                (J2 (some ()) w1))))))))
  fun t3 w4 =>
  RunQ .sl P (Instr.loadAt T_sl_api_Program (.pointer (some (Go.Addr.add a0 3)))) w4 fun (s13 : Sl) =>
   LoopP (T := Int × Unit) (some (0, ())) w4 fun next14 t15 w16 =>
    ifB (decide (t15.fst < (↑s13.len : Int)))
     (RunQ .addr P (Instr.indexAt T_sl_api_Program s13.v (.int .i64 t15.fst)) w16 fun (a17 : Addr) =>
      RunQ .val P (Instr.loadAt T_api_Program (.pointer (some a17))) w16 fun (v18 : Value) =>
       RunK .addr P (Instr.alloc T_api_Program true (.tuple #[])) w16 fun (a19 : Addr) w20 =>
        StoreP P T_api_Program (.pointer (some a19)) v18 w20 fun w21 =>
         JoinP (T := Unit) (fun J22 =>
          RunQ (.int .i64) P (Instr.loadAt T_int (.pointer (some (Go.Addr.add a19 0)))) w21 fun (n25 : Int) =>
           ifB (decide (n25 < 0))
            (R (.bool true) w21)
            (RunQ (.int .i64) P (Instr.loadAt T_int (.pointer (some (Go.Addr.add a19 0)))) w21 fun (n26 : Int) =>
             ifB (decide (n26 > 7))
              (R (.bool true) w21)
              (RunQ .sl P (Instr.loadAt T_sl_api_Op (.pointer (some (Go.Addr.add a19 1)))) w21 fun (s27 : Sl) =>
               ifB (decide ((↑s27.len : Int) > 64))
                (R (.bool true) w21)
                (J22 (some ()) w21))))
          fun t23 w24 =>
          RunQ .sl P (Instr.loadAt T_sl_api_Op (.pointer (some (Go.Addr.add a19 1)))) w24 fun (s28 : Sl) =>
           LoopP (T := Int × Unit) (some (0, ())) w24 fun next29 t30 w31 =>
            ifB (decide (t30.fst < (↑s28.len : Int)))
             (RunQ .addr P (Instr.indexAt T_sl_api_Op s28.v (.int .i64 t30.fst)) w31 fun (a32 : Addr) =>
              RunQ .val P (Instr.loadAt T_api_Op (.pointer (some a32))) w31 fun (v33 : Value) =>
               RunK .addr P (Instr.alloc T_api_Op true (.tuple #[])) w31 fun (a34 : Addr) w35 =>
                StoreP P T_api_Op (.pointer (some a34)) v33 w35 fun w36 =>
                RunQ (.int .i64) P (Instr.loadAt T_int (.pointer (some (Go.Addr.add a34 0)))) w36 fun (n37 : Int) =>
                ifB (decide (n37 < 1))
                (R (.bool true) w36)
                (RunQ (.int .i64) P (Instr.loadAt T_int (.pointer (some (Go.Addr.add a34 0)))) w36 fun (n38 : Int) =>
                ifB (decide (n38 > 5))
                (R (.bool true) w36)
                (RunQ (.int .i64) P (Instr.loadAt T_int (.pointer (some (Go.Addr.add a34 1)))) w36 fun (n39 : Int) =>
                ifB (decide (n39 < 0))
                (R (.bool true) w36)
                (RunQ (.int .i64) P (Instr.loadAt T_int (.pointer (some (Go.Addr.add a34 1)))) w36 fun (n40 : Int) =>
                RunQ (.int .i64) P (Instr.loadAt T_int (.pointer (some (Go.Addr.add a0 1)))) w36 fun (n41 : Int) =>
                ifB (decide (n40 ≥ n41))
                (R (.bool true) w36)
                (RunQ (.int .i64) P (Instr.loadAt T_int (.pointer (some (Go.Addr.add a34 2)))) w36 fun (n42 : Int) =>
                ifB (decide (n42 < 0))
                (R (.bool true) w36)
                (RunQ (.int .i64) P (Instr.loadAt T_int (.pointer (some (Go.Addr.add a34 2)))) w36 fun (n43 : Int) =>
                RunQ (.int .i64) P (Instr.loadAt T_int (.pointer (some (Go.Addr.add a0 1)))) w36 fun (n44 : Int) =>
                ifB (decide (n43 ≥ n44))
                (R (.bool true) w36)
                (RunQ (.int .i64) P (Instr.loadAt T_int (.pointer (some (Go.Addr.add a34 3)))) w36 fun (n45 : Int) =>
                ifB (decide (n45 < 0))
                (R (.bool true) w36)
                (RunQ (.int .i64) P (Instr.loadAt T_int (.pointer (some (Go.Addr.add a34 3)))) w36 fun (n46 : Int) =>
                ifB (decide (n46 > 16))
                (R (.bool true) w36)
                (RunQ .str P (Instr.loadAt T_string (.pointer (some (Go.Addr.add a34 4)))) w36 fun (t47 : ByteArray) =>
                ifB (decide ((↑(ByteArray.size t47) : Int) > 64))
                (R (.bool true) w36)
                (next29 (some ((IntKind.i64.wrap (t30.fst + 1)), ())) w36))))))))))
             (next14 (some ((IntKind.i64.wrap (t15.fst + 1)), ())) w31))
     (R (.bool false) w16)
def an_law19_bad : Ann := ⟨[(8, []), (3, [])], [(9, [(67, (.int .i64))]), (4, [(46, (.int .i64))])], []⟩
theorem e_law19_bad (R : Value → World → Prop) (x0 : Value) (w : World) : denF P an_law19_bad Try.f11 [x0] w R = S_law19_bad R x0 w := by kernel_rfl
theorem c_law19_bad {R : Value → World → Prop} {x0 : Value} {w : World} (h : S_law19_bad R x0 w) : CallP P F_law19_bad [x0] w R := calls_of_denF (an := an_law19_bad) Try.func11 (by rw [e_law19_bad]; exact h)


/-- penstock/penstocklaw19.awake -/
def S_law19_awake (R : Value → World → Prop) (w : World) : Prop :=
 CallP P F_law19_one [(.slice none 0 0)] w fun (v0 : Value) w1 =>
 TyP .val v0 fun (v2 : Value) =>
  CallP P F_client_New [(.int .i64 0), v2] w1 fun (v3 : Value) w4 =>
   TupP [.ptr, (.int .i64)] v3 fun (t5 : Option Addr × Int × Unit) =>
    RunK .sl P (Instr.buildSlice T_sl_api_Op 1 #[(0, (.agg #[(.int .i64 1), (.int .i64 0), (.int .i64 0), (.int .i64 0), (.string (ByteArray.mk #[97]))]))]) w4 fun (s6 : Sl) w7 =>
     CallP P F_law19_one [s6.v] w7 fun (v8 : Value) w9 =>
      TyP .val v8 fun (v10 : Value) =>
       CallP P F_client_New [(.int .i64 0), v10] w9 fun (v11 : Value) w12 =>
        TupP [.ptr, (.int .i64)] v11 fun (t13 : Option Addr × Int × Unit) =>
         JoinP (T := Unit) (fun J14 =>
          ifB (Option.isNone t5.fst)
           (R (.bool false) w12)
           (ifB (Option.isNone t13.fst)
            (R (.bool false) w12)
            (ifB (t5.snd.fst != 0)
             (R (.bool false) w12)
             (ifB (t13.snd.fst != 0)
              (R (.bool false) w12)
              (J14 (some ()) w12)))))
          fun t15 w16 =>
          CallP P F_client_Client_Tick [(.pointer t5.fst)] w16 fun (v17 : Value) w18 =>
           TyP .sl v17 fun (s19 : Sl) =>
            CallP P F_client_Client_Tick [(.pointer t13.fst)] w18 fun (v20 : Value) w21 =>
             TyP .sl v20 fun (s22 : Sl) =>
              CallP P F_client_Client_Trace [(.pointer t5.fst)] w21 fun (v23 : Value) w24 =>
               TyP .sl v23 fun (s25 : Sl) =>
                ifB ((↑s19.len : Int) == 0)
                (ifB ((↑s25.len : Int) == 1)
                (RunQ .addr P (Instr.indexAt T_sl_api_Seen s25.v (.int .i64 0)) w24 fun (a26 : Addr) =>
                RunQ (.int .i64) P (Instr.loadAt T_int (.pointer (some (Go.Addr.add a26 0)))) w24 fun (n27 : Int) =>
                ifB (n27 == 7)
                (ifB ((↑s22.len : Int) == 1)
                (RunQ .addr P (Instr.indexAt T_sl_api_Msg s22.v (.int .i64 0)) w24 fun (a28 : Addr) =>
                RunQ (.int .i64) P (Instr.loadAt T_int (.pointer (some (Go.Addr.add a28 0)))) w24 fun (n29 : Int) =>
                ifB (n29 == 7)
                (RunQ .addr P (Instr.indexAt T_sl_api_Msg s22.v (.int .i64 0)) w24 fun (a30 : Addr) =>
                RunQ (.int .i64) P (Instr.loadAt T_int (.pointer (some (Go.Addr.add a30 2)))) w24 fun (n31 : Int) =>
                ifB (n31 == 0)
                (RunQ .addr P (Instr.indexAt T_sl_api_Msg s22.v (.int .i64 0)) w24 fun (a32 : Addr) =>
                RunQ (.int .i64) P (Instr.loadAt T_int (.pointer (some (Go.Addr.add a32 1)))) w24 fun (n33 : Int) =>
                R (.bool (n33 == 1)) w24)
                (R (.bool false) w24))
                (R (.bool false) w24))
                (R (.bool false) w24))
                (R (.bool false) w24))
                (R (.bool false) w24))
                (R (.bool false) w24)
def an_law19_awake : Ann := ⟨[(5, [])], [], []⟩
theorem e_law19_awake (R : Value → World → Prop) (w : World) : denF P an_law19_awake Try.f12 [] w R = S_law19_awake R  w := by kernel_rfl
theorem c_law19_awake {R : Value → World → Prop} {w : World} (h : S_law19_awake R  w) : CallP P F_law19_awake [] w R := calls_of_denF (an := an_law19_awake) Try.func12 (by rw [e_law19_awake]; exact h)


/-- penstock/penstocklaw19.one -/
def S_law19_one (R : Value → World → Prop) (x0 : Sl) (w : World) : Prop :=
 RunK .addr P (Instr.alloc T_api_Config true (.tuple #[])) w fun (a0 : Addr) w1 =>
 RunK .sl P (Instr.buildSlice T_sl_api_Program 1 #[(0, (.agg #[(.int .i64 0), x0.v]))]) w1 fun (s2 : Sl) w3 =>
  StoreP P T_api_Config (.pointer (some a0)) (.agg #[(.int .i64 1), (.int .i64 1), (.int .i64 1), s2.v]) w3 fun w4 =>
   LoadK .val P T_api_Config (.pointer (some a0)) w4 fun (v5 : Value) =>
    R v5 w4
def an_law19_one : Ann := ⟨[], [], []⟩
theorem e_law19_one (R : Value → World → Prop) (x0 : Sl) (w : World) : denF P an_law19_one Try.f13 [x0.v] w R = S_law19_one R x0 w := by kernel_rfl
theorem c_law19_one {R : Value → World → Prop} {x0 : Sl} {w : World} (h : S_law19_one R x0 w) : CallP P F_law19_one [x0.v] w R := calls_of_denF (an := an_law19_one) Try.func13 (by rw [e_law19_one]; exact h)

end Go.Proofs.Ytajhdjjmhfbhgaa
