/- The functions of the program as predicates over worlds, written by a program of mine (PkPrint); each is held against the code by the kernel. -/
import Derived.Test.YtajhdjjmhfbhgaaN
namespace Go.Proofs.Ytajhdjjmhfbhgaa
open Go Go.Pk
/-- penstock/client.Check -/
def S_client_Check (R : Value → World → Prop) (x0 : Value) (w : World) : Prop :=
 RunK .addr P (Instr.box T_api_Config x0) w fun (a0 : Addr) w1 =>
 JoinP (T := Unit) (fun J2 =>
  RunQ (.int .i64) P (Instr.loadAt T_int (.pointer (some (Go.Addr.add a0 0)))) w1 fun (n5 : Int) =>
   ifB (decide (n5 < 1))
    (R (.int .i64 1) w1)
    (RunQ (.int .i64) P (Instr.loadAt T_int (.pointer (some (Go.Addr.add a0 0)))) w1 fun (n6 : Int) =>
     ifB (decide (n6 > 5))
      (R (.int .i64 1) w1)
      (RunQ (.int .i64) P (Instr.loadAt T_int (.pointer (some (Go.Addr.add a0 1)))) w1 fun (n7 : Int) =>
       ifB (decide (n7 < 1))
        (R (.int .i64 1) w1)
        (RunQ (.int .i64) P (Instr.loadAt T_int (.pointer (some (Go.Addr.add a0 1)))) w1 fun (n8 : Int) =>
         ifB (decide (n8 > 4))
          (R (.int .i64 1) w1)
          (RunQ (.int .i64) P (Instr.loadAt T_int (.pointer (some (Go.Addr.add a0 2)))) w1 fun (n9 : Int) =>
           ifB (decide (n9 < 1))
            (R (.int .i64 1) w1)
            (RunQ (.int .i64) P (Instr.loadAt T_int (.pointer (some (Go.Addr.add a0 2)))) w1 fun (n10 : Int) =>
             RunQ (.int .i64) P (Instr.loadAt T_int (.pointer (some (Go.Addr.add a0 0)))) w1 fun (n11 : Int) =>
              ifB (decide (n10 > n11))
               (R (.int .i64 1) w1)
               (RunQ .sl P (Instr.loadAt T_sl_api_Program (.pointer (some (Go.Addr.add a0 3)))) w1 fun (s12 : Sl) =>
                ifB (decide ((↑s12.len : Int) > 4))
                (R (.int .i64 1) w1)
                (J2 (some ()) w1))))))))
  fun t3 w4 =>
  RunQ .sl P (Instr.loadAt T_sl_api_Program (.pointer (some (Go.Addr.add a0 3)))) w4 fun (s13 : Sl) =>
   LoopP (T := Int × Unit) (some (0, ())) w4 fun next14 t15 w16 =>
    ifB (decide (t15.fst < (↑s13.len : Int)))
     (RunQ .addr P (Instr.indexAt T_sl_api_Program s13.v (.int .i64 t15.fst)) w16 fun (a17 : Addr) =>
      RunQ .val P (Instr.loadAt T_api_Program (.pointer (some a17))) w16 fun (v18 : Value) =>
       RunK .addr P (Instr.alloc T_api_Program true (.tuple #[])) w16 fun (a19 : Addr) w20 =>
        StoreP P T_api_Program (.pointer (some a19)) v18 w20 fun w21 =>
         JoinP (T := Unit) (fun J22 =>
          RunQ (.int .i64) P (Instr.loadAt T_int (.pointer (some (Go.Addr.add a19 0)))) w21 fun (n25 : Int) =>
           ifB (decide (n25 < 0))
            (R (.int .i64 1) w21)
            (RunQ (.int .i64) P (Instr.loadAt T_int (.pointer (some (Go.Addr.add a19 0)))) w21 fun (n26 : Int) =>
             ifB (decide (n26 ≥ 8))
              (R (.int .i64 1) w21)
              (RunQ .sl P (Instr.loadAt T_sl_api_Op (.pointer (some (Go.Addr.add a19 1)))) w21 fun (s27 : Sl) =>
               ifB (decide ((↑s27.len : Int) > 64))
                (R (.int .i64 1) w21)
                (J22 (some ()) w21))))
          fun t23 w24 =>
          RunQ .sl P (Instr.loadAt T_sl_api_Op (.pointer (some (Go.Addr.add a19 1)))) w24 fun (s28 : Sl) =>
           LoopP (T := Int × Unit) (some (0, ())) w24 fun next29 t30 w31 =>
            ifB (decide (t30.fst < (↑s28.len : Int)))
             (RunQ .addr P (Instr.indexAt T_sl_api_Op s28.v (.int .i64 t30.fst)) w31 fun (a32 : Addr) =>
              RunQ .val P (Instr.loadAt T_api_Op (.pointer (some a32))) w31 fun (v33 : Value) =>
               RunK .addr P (Instr.alloc T_api_Op true (.tuple #[])) w31 fun (a34 : Addr) w35 =>
                StoreP P T_api_Op (.pointer (some a34)) v33 w35 fun w36 =>
                RunQ (.int .i64) P (Instr.loadAt T_int (.pointer (some (Go.Addr.add a34 0)))) w36 fun (n37 : Int) =>
                ifB (decide (n37 < 1))
                (R (.int .i64 1) w36)
                (RunQ (.int .i64) P (Instr.loadAt T_int (.pointer (some (Go.Addr.add a34 0)))) w36 fun (n38 : Int) =>
                ifB (decide (n38 > 5))
                (R (.int .i64 1) w36)
                (RunQ (.int .i64) P (Instr.loadAt T_int (.pointer (some (Go.Addr.add a34 1)))) w36 fun (n39 : Int) =>
                ifB (decide (n39 < 0))
                (R (.int .i64 1) w36)
                (RunQ (.int .i64) P (Instr.loadAt T_int (.pointer (some (Go.Addr.add a34 1)))) w36 fun (n40 : Int) =>
                RunQ (.int .i64) P (Instr.loadAt T_int (.pointer (some (Go.Addr.add a0 1)))) w36 fun (n41 : Int) =>
                ifB (decide (n40 ≥ n41))
                (R (.int .i64 1) w36)
                (RunQ (.int .i64) P (Instr.loadAt T_int (.pointer (some (Go.Addr.add a34 2)))) w36 fun (n42 : Int) =>
                ifB (decide (n42 < 0))
                (R (.int .i64 1) w36)
                (RunQ (.int .i64) P (Instr.loadAt T_int (.pointer (some (Go.Addr.add a34 2)))) w36 fun (n43 : Int) =>
                RunQ (.int .i64) P (Instr.loadAt T_int (.pointer (some (Go.Addr.add a0 1)))) w36 fun (n44 : Int) =>
                ifB (decide (n43 ≥ n44))
                (R (.int .i64 1) w36)
                (RunQ (.int .i64) P (Instr.loadAt T_int (.pointer (some (Go.Addr.add a34 3)))) w36 fun (n45 : Int) =>
                ifB (decide (n45 < 0))
                (R (.int .i64 1) w36)
                (RunQ (.int .i64) P (Instr.loadAt T_int (.pointer (some (Go.Addr.add a34 3)))) w36 fun (n46 : Int) =>
                ifB (decide (n46 > 16))
                (R (.int .i64 1) w36)
                (RunQ .str P (Instr.loadAt T_string (.pointer (some (Go.Addr.add a34 4)))) w36 fun (t47 : ByteArray) =>
                ifB (decide ((↑(ByteArray.size t47) : Int) > 64))
                (R (.int .i64 1) w36)
                (next29 (some ((IntKind.i64.wrap (t30.fst + 1)), ())) w36))))))))))
             (next14 (some ((IntKind.i64.wrap (t15.fst + 1)), ())) w31))
     (R (.int .i64 0) w16)
def an_client_Check : Ann := ⟨[(8, []), (3, [])], [(9, [(67, (.int .i64))]), (4, [(46, (.int .i64))])], []⟩
theorem e_client_Check (R : Value → World → Prop) (x0 : Value) (w : World) : denF P an_client_Check Try.f9 [x0] w R = S_client_Check R x0 w := by kernel_rfl
theorem c_client_Check {R : Value → World → Prop} {x0 : Value} {w : World} (h : S_client_Check R x0 w) : CallP P F_client_Check [x0] w R := calls_of_denF (an := an_client_Check) Try.func9 (by rw [e_client_Check]; exact h)


/-- penstock/client.New -/
def S_client_New (R : Value → World → Prop) (x0 : Int) (x1 : Value) (w : World) : Prop :=
 RunK .addr P (Instr.box T_api_Config x1) w fun (a0 : Addr) w1 =>
 RunQ .val P (Instr.loadAt T_api_Config (.pointer (some a0))) w1 fun (v2 : Value) =>
  CallP P F_client_Check [v2] w1 fun (v3 : Value) w4 =>
   TyP (.int .i64) v3 fun (n5 : Int) =>
    ifB (n5 != 0)
     (R (.tuple #[(.pointer none), (.int .i64 n5)]) w4)
     (JoinP (T := Unit) (fun J6 =>
      ifB (decide (x0 < 0))
       (R (.tuple #[(.pointer none), (.int .i64 1)]) w4)
       (RunQ .sl P (Instr.loadAt T_sl_api_Program (.pointer (some (Go.Addr.add a0 3)))) w4 fun (s9 : Sl) =>
        ifB (decide (x0 ≥ (↑s9.len : Int)))
         (R (.tuple #[(.pointer none), (.int .i64 1)]) w4)
         (J6 (some ()) w4)))
      fun t7 w8 =>
      RunQ .sl P (Instr.loadAt T_sl_api_Program (.pointer (some (Go.Addr.add a0 3)))) w8 fun (s10 : Sl) =>
       RunQ .addr P (Instr.indexAt T_sl_api_Program s10.v (.int .i64 x0)) w8 fun (a11 : Addr) =>
        RunQ .val P (Instr.loadAt T_api_Program (.pointer (some a11))) w8 fun (v12 : Value) =>
         RunK .addr P (Instr.alloc T_api_Program true (.tuple #[])) w8 fun (a13 : Addr) w14 =>
          StoreP P T_api_Program (.pointer (some a13)) v12 w14 fun w15 =>
           JoinP (T := Option Addr × Unit) (fun J16 =>
            ∃ S19 : World → Prop, (S19 w15.drew) ∧
              HRun S19 (.int .i64) P (Instr.loadAt T_int (.pointer (some (Go.Addr.add a0 0)))) fun (n20 : Int) =>
               HRun S19 .val P (Instr.loadAt T_api_Config (.pointer (some a0))) fun (v21 : Value) =>
                HRun S19 .sl P (Instr.loadAt T_sl_api_Op (.pointer (some (Go.Addr.add a13 1)))) fun (s22 : Sl) =>
                HRun S19 (.int .i64) P (Instr.loadAt T_int (.pointer (some (Go.Addr.add a13 0)))) fun (n23 : Int) =>
                HRun S19 (.int .i64) P (Instr.loadAt T_int (.pointer (some (Go.Addr.add a0 1)))) fun (n24 : Int) =>
                (CallP P F_slices_Clone_api_Op_api_Op [s22.v] w15.drew fun (v25 : Value) w26 =>
                TyP .sl v25 fun (s27 : Sl) =>
                (S19 w26) ∧
                RunK .sl P (Instr.makeSlice T_sl_int (.int .i64 (IntKind.i64.wrap (n24 + 2))) (.int .i64 (IntKind.i64.wrap (n24 + 2)))) w26 fun (s28 : Sl) w29 =>
                (S19 w29) ∧
                HRun S19 .val P (Instr.build T_client_Client #[(0, (.int .i64 (IntKind.i64.wrap (n20 + x0)))), (1, (.int .i64 x0)), (2, v21), (3, s27.v), (4, (.int .i64 n23)), (8, s28.v)]) fun (v30 : Value) =>
                RunK .addr P (Instr.box T_client_Client v30) w29 fun (a31 : Addr) w32 =>
                (S19 w32) ∧
                J16 (some ((some a31), ())) w32) ∧
                (RunK .sl P (Instr.makeSlice T_sl_int (.int .i64 (IntKind.i64.wrap (n24 + 2))) (.int .i64 (IntKind.i64.wrap (n24 + 2)))) w15.drew fun (s33 : Sl) w34 =>
                (S19 w34) ∧
                CallP P F_slices_Clone_api_Op_api_Op [s22.v] w34 fun (v35 : Value) w36 =>
                TyP .sl v35 fun (s37 : Sl) =>
                (S19 w36) ∧
                HRun S19 .val P (Instr.build T_client_Client #[(0, (.int .i64 (IntKind.i64.wrap (n20 + x0)))), (1, (.int .i64 x0)), (2, v21), (3, s37.v), (4, (.int .i64 n23)), (8, s33.v)]) fun (v38 : Value) =>
                RunK .addr P (Instr.box T_client_Client v38) w36 fun (a39 : Addr) w40 =>
                (S19 w40) ∧
                J16 (some ((some a39), ())) w40) ∧
                True)
            fun t17 w18 =>
            nilCk t17.fst fun (a41 : Addr) =>
             RunQ .sl P (Instr.loadAt T_sl_int (.pointer (some (a41.add 11)))) w18 fun (s42 : Sl) =>
              LoopP (T := Int × Unit) (some (0, ())) w18 fun next43 t44 w45 =>
               ifB (decide (t44.fst < (↑s42.len : Int)))
                (∃ S46 : World → Prop, (S46 w45.drew) ∧
                nilCk t17.fst fun (a47 : Addr) =>
                HRun S46 .sl P (Instr.loadAt T_sl_int (.pointer (some (a47.add 11)))) fun (s48 : Sl) =>
                HRun S46 (.int .i64) P (Instr.loadAt T_int (.pointer (some (Go.Addr.add a0 0)))) fun (n49 : Int) =>
                RunK (.int .i64) P (do (eqGuard .rem T_int (.tmp 0) (.tmp 0) (.int .i64 t44.fst) (.int .i64 n49)); (binOp .rem T_int (.int .i64 t44.fst) (.int .i64 n49))) w45.drew fun (n50 : Int) w51 =>
                (S46 w51) ∧
                HRun S46 .addr P (Instr.indexAt T_sl_int s48.v (.int .i64 t44.fst)) fun (a52 : Addr) =>
                StoreP P T_int (.pointer (some a52)) (.int .i64 n50) w51 fun w53 =>
                (S46 w53) ∧
                next43 (some ((IntKind.i64.wrap (t44.fst + 1)), ())) w53)
                (nilCk t17.fst fun (a54 : Addr) =>
                StoreP P T_int (.pointer (some ((a54.add 77).add 4))) (.int .i64 (-1)) w45 fun w55 =>
                CallP P F_client_Client_fresh [(.pointer t17.fst)] w55 fun (v56 : Value) w57 =>
                TupP [] v56 fun (t58 : Unit) =>
                R (.tuple #[(.pointer t17.fst), (.int .i64 0)]) w57))
def an_client_New : Ann := ⟨[(8, [(8, .ptr)]), (6, [])], [(9, [(51, (.int .i64))])], []⟩
theorem e_client_New (R : Value → World → Prop) (x0 : Int) (x1 : Value) (w : World) : denF P an_client_New Try.f10 [.int .i64 x0, x1] w R = S_client_New R x0 x1 w := by kernel_rfl
theorem c_client_New {R : Value → World → Prop} {x0 : Int} {x1 : Value} {w : World} (h : S_client_New R x0 x1 w) : CallP P F_client_New [.int .i64 x0, x1] w R := calls_of_denF (an := an_client_New) Try.func10 (by rw [e_client_New]; exact h)


/-- (*penstock/client.Client).Tick -/
def S_client_Client_Tick (R : Value → World → Prop) (x0 : Option Addr) (w : World) : Prop :=
 ifB (Option.isNone x0)
 (R (.slice none 0 0) w)
 (nilCk x0 fun (a0 : Addr) =>
  RunQ .bool P (Instr.loadAt T_bool (.pointer (some (a0.add 72)))) w fun (b1 : Bool) =>
   ifB b1
    (nilCk x0 fun (a2 : Addr) =>
     RunQ (.int .i64) P (Instr.loadAt T_int (.pointer (some (a2.add 73)))) w fun (n3 : Int) =>
      nilCk x0 fun (a4 : Addr) =>
       StoreP P T_int (.pointer (some (a4.add 73))) (.int .i64 (IntKind.i64.wrap (n3 + 1))) w fun w5 =>
        nilCk x0 fun (a6 : Addr) =>
         RunQ (.int .i64) P (Instr.loadAt T_int (.pointer (some (a6.add 73)))) w5 fun (n7 : Int) =>
          ifB (decide (n7 ≥ 6))
           (JoinP (T := Unit) (fun J8 =>
            nilCk x0 fun (a11 : Addr) =>
             StoreP P T_int (.pointer (some (a11.add 73))) (.int .i64 0) w5 fun w12 =>
              nilCk x0 fun (a13 : Addr) =>
               RunQ .bool P (Instr.loadAt T_bool (.pointer (some (a13.add 74)))) w12 fun (b14 : Bool) =>
                ifB (!b14)
                (CallP P F_client_Client_next [(.pointer x0)] w12 fun (v15 : Value) w16 =>
                TupP [] v15 fun (t17 : Unit) =>
                J8 (some ()) w16)
                (J8 (some ()) w12))
            fun t9 w10 =>
            nilCk x0 fun (a18 : Addr) =>
             StoreP P T_bool (.pointer (some (a18.add 74))) (.bool false) w10 fun w19 =>
              CallP P F_client_Client_again [(.pointer x0)] w19 fun (v20 : Value) w21 =>
               TupP [] v20 fun (t22 : Unit) =>
                CallP P F_client_Client_take [(.pointer x0)] w21 fun (v23 : Value) w24 =>
                TyP .sl v23 fun (s25 : Sl) =>
                R s25.v w24)
           (CallP P F_client_Client_take [(.pointer x0)] w5 fun (v26 : Value) w27 =>
            TyP .sl v26 fun (s28 : Sl) =>
             R s28.v w27))
    (CallP P F_client_Client_decide [(.pointer x0)] w fun (v29 : Value) w30 =>
     TupP [] v29 fun (t31 : Unit) =>
      CallP P F_client_Client_take [(.pointer x0)] w30 fun (v32 : Value) w33 =>
       TyP .sl v32 fun (s34 : Sl) =>
        R s34.v w33))
def an_client_Client_Tick : Ann := ⟨[(9, [])], [], []⟩
theorem e_client_Client_Tick (R : Value → World → Prop) (x0 : Option Addr) (w : World) : denF P an_client_Client_Tick Try.f14 [.pointer x0] w R = S_client_Client_Tick R x0 w := by kernel_rfl
theorem c_client_Client_Tick {R : Value → World → Prop} {x0 : Option Addr} {w : World} (h : S_client_Client_Tick R x0 w) : CallP P F_client_Client_Tick [.pointer x0] w R := calls_of_denF (an := an_client_Client_Tick) Try.func14 (by rw [e_client_Client_Tick]; exact h)


/-- (*penstock/client.Client).Trace -/
def S_client_Client_Trace (R : Value → World → Prop) (x0 : Option Addr) (w : World) : Prop :=
 ifB (Option.isNone x0)
 (R (.slice none 0 0) w)
 (nilCk x0 fun (a0 : Addr) =>
  RunQ .sl P (Instr.loadAt T_sl_api_Seen (.pointer (some (a0.add 76)))) w fun (s1 : Sl) =>
   CallP P F_slices_Clone_api_Seen_api_Seen [s1.v] w fun (v2 : Value) w3 =>
    TyP .sl v2 fun (s4 : Sl) =>
     R s4.v w3)
def an_client_Client_Trace : Ann := ⟨[], [], []⟩
theorem e_client_Client_Trace (R : Value → World → Prop) (x0 : Option Addr) (w : World) : denF P an_client_Client_Trace Try.f15 [.pointer x0] w R = S_client_Client_Trace R x0 w := by kernel_rfl
theorem c_client_Client_Trace {R : Value → World → Prop} {x0 : Option Addr} {w : World} (h : S_client_Client_Trace R x0 w) : CallP P F_client_Client_Trace [.pointer x0] w R := calls_of_denF (an := an_client_Client_Trace) Try.func15 (by rw [e_client_Client_Trace]; exact h)


/-- (*penstock/client.Client).State -/
def S_client_Client_State (R : Value → World → Prop) (x0 : Option Addr) (w : World) : Prop :=
 ifB (Option.isNone x0)
 (R (.tuple #[(.int .i64 0), (.int .i64 0), (.bool false)]) w)
 (nilCk x0 fun (a0 : Addr) =>
  RunQ (.int .i64) P (Instr.loadAt T_int (.pointer (some (a0.add 8)))) w.drew fun (n1 : Int) =>
   nilCk x0 fun (a2 : Addr) =>
    RunQ (.int .i64) P (Instr.loadAt T_int (.pointer (some (a2.add 10)))) w.drew fun (n3 : Int) =>
     nilCk x0 fun (a4 : Addr) =>
      RunQ .bool P (Instr.loadAt T_bool (.pointer (some (a4.add 9)))) w.drew fun (b5 : Bool) =>
       R (.tuple #[(.int .i64 n1), (.int .i64 n3), (.bool b5)]) w.drew)
def an_client_Client_State : Ann := ⟨[], [], []⟩
theorem e_client_Client_State (R : Value → World → Prop) (x0 : Option Addr) (w : World) : denF P an_client_Client_State Try.f16 [.pointer x0] w R = S_client_Client_State R x0 w := by kernel_rfl
theorem c_client_Client_State {R : Value → World → Prop} {x0 : Option Addr} {w : World} (h : S_client_Client_State R x0 w) : CallP P F_client_Client_State [.pointer x0] w R := calls_of_denF (an := an_client_Client_State) Try.func16 (by rw [e_client_Client_State]; exact h)


/-- (*penstock/client.Client).Again -/
def S_client_Client_Again (R : Value → World → Prop) (x0 : Option Addr) (w : World) : Prop :=
 ifB (!Option.isNone x0)
 (nilCk x0 fun (a0 : Addr) =>
  RunQ (.int .i64) P (Instr.loadAt T_int (.pointer (some (a0.add 10)))) w fun (n1 : Int) =>
   nilCk x0 fun (a2 : Addr) =>
    StoreP P T_int (.pointer (some (a2.add 10))) (.int .i64 (IntKind.i64.wrap (n1 + 1))) w fun w3 =>
     CallP P F_client_Client_fresh [(.pointer x0)] w3 fun (v4 : Value) w5 =>
      TupP [] v4 fun (t6 : Unit) =>
       R (.tuple #[]) w5)
 (R (.tuple #[]) w)
def an_client_Client_Again : Ann := ⟨[], [], []⟩
theorem e_client_Client_Again (R : Value → World → Prop) (x0 : Option Addr) (w : World) : denF P an_client_Client_Again Try.f29 [.pointer x0] w R = S_client_Client_Again R x0 w := by kernel_rfl
theorem c_client_Client_Again {R : Value → World → Prop} {x0 : Option Addr} {w : World} (h : S_client_Client_Again R x0 w) : CallP P F_client_Client_Again [.pointer x0] w R := calls_of_denF (an := an_client_Client_Again) Try.func29 (by rw [e_client_Client_Again]; exact h)


/-- slices.Clone[[]penstock/api.Op,penstock/api.Op] -/
def S_slices_Clone_api_Op_api_Op (R : Value → World → Prop) (x0 : Sl) (w : World) : Prop :=
 ifB x0.a.isNone
 (R (.slice none 0 0) w)
 (RunK .sl P (Instr.buildSlice T_sl_api_Op 0 #[]) w fun (s0 : Sl) w1 =>
  RunK .sl P (Builtin.append_ #[T_sl_api_Op, T_sl_api_Op] T_sl_api_Op #[s0.v, x0.v]) w1 fun (s2 : Sl) w3 =>
   R s2.v w3)
def an_slices_Clone_api_Op_api_Op : Ann := ⟨[], [], []⟩
theorem e_slices_Clone_api_Op_api_Op (R : Value → World → Prop) (x0 : Sl) (w : World) : denF P an_slices_Clone_api_Op_api_Op Try.f30 [x0.v] w R = S_slices_Clone_api_Op_api_Op R x0 w := by kernel_rfl
theorem c_slices_Clone_api_Op_api_Op {R : Value → World → Prop} {x0 : Sl} {w : World} (h : S_slices_Clone_api_Op_api_Op R x0 w) : CallP P F_slices_Clone_api_Op_api_Op [x0.v] w R := calls_of_denF (an := an_slices_Clone_api_Op_api_Op) Try.func30 (by rw [e_slices_Clone_api_Op_api_Op]; exact h)


/-- (*penstock/client.Client).fresh -/
def S_client_Client_fresh (R : Value → World → Prop) (x0 : Option Addr) (w : World) : Prop :=
 nilCk x0 fun (a0 : Addr) =>
 StoreP P T_bool (.pointer (some (a0.add 72))) (.bool false) w fun w1 =>
  nilCk x0 fun (a2 : Addr) =>
   StoreP P T_sl_api_Msg (.pointer (some (a2.add 75))) (.slice none 0 0) w1 fun w3 =>
    nilCk x0 fun (a4 : Addr) =>
     StoreP P T_bool (.pointer (some ((a4.add 77).add 0))) (.bool false) w3 fun w5 =>
      CallP P F_client_Client_away [(.pointer x0)] w5 fun (v6 : Value) w7 =>
       TupP [] v6 fun (t8 : Unit) =>
        R (.tuple #[]) w7
def an_client_Client_fresh : Ann := ⟨[], [], []⟩
theorem e_client_Client_fresh (R : Value → World → Prop) (x0 : Option Addr) (w : World) : denF P an_client_Client_fresh Try.f31 [.pointer x0] w R = S_client_Client_fresh R x0 w := by kernel_rfl
theorem c_client_Client_fresh {R : Value → World → Prop} {x0 : Option Addr} {w : World} (h : S_client_Client_fresh R x0 w) : CallP P F_client_Client_fresh [.pointer x0] w R := calls_of_denF (an := an_client_Client_fresh) Try.func31 (by rw [e_client_Client_fresh]; exact h)


/-- (*penstock/client.Client).next -/
def S_client_Client_next (R : Value → World → Prop) (x0 : Option Addr) (w : World) : Prop :=
 CallP P F_client_Client_part [(.pointer x0)] w fun (v0 : Value) w1 =>
 TyP (.int .i64) v0 fun (n2 : Int) =>
  ∃ S3 : World → Prop, (S3 w1.drew) ∧
    nilCk x0 fun (a4 : Addr) =>
     HRun S3 .sl P (Instr.loadAt T_sl_int (.pointer (some (a4.add 11)))) fun (s5 : Sl) =>
      nilCk x0 fun (a6 : Addr) =>
       HRun S3 .sl P (Instr.loadAt T_sl_int (.pointer (some (a6.add 11)))) fun (s7 : Sl) =>
        HRun S3 .addr P (Instr.indexAt T_sl_int s7.v (.int .i64 n2)) fun (a8 : Addr) =>
         nilCk x0 fun (a9 : Addr) =>
          HRun S3 (.int .i64) P (Instr.loadAt T_int (.pointer (some ((a9.add 2).add 0)))) fun (n10 : Int) =>
           RunQ (.int .i64) P (Instr.loadAt T_int (.pointer (some a8))) w1.drew fun (n11 : Int) =>
            (S3 w1.drew) ∧
             RunK (.int .i64) P (do (eqGuard .rem T_int (.tmp 0) (.tmp 0) (.int .i64 (IntKind.i64.wrap (n11 + 1))) (.int .i64 n10)); (binOp .rem T_int (.int .i64 (IntKind.i64.wrap (n11 + 1))) (.int .i64 n10))) w1.drew fun (n12 : Int) w13 =>
              (S3 w13) ∧
               HRun S3 .addr P (Instr.indexAt T_sl_int s5.v (.int .i64 n2)) fun (a14 : Addr) =>
                StoreP P T_int (.pointer (some a14)) (.int .i64 n12) w13 fun w15 =>
                (S3 w15) ∧
                R (.tuple #[]) w15
def an_client_Client_next : Ann := ⟨[], [], [1]⟩
theorem e_client_Client_next (R : Value → World → Prop) (x0 : Option Addr) (w : World) : denF P an_client_Client_next Try.f32 [.pointer x0] w R = S_client_Client_next R x0 w := by kernel_rfl
theorem c_client_Client_next {R : Value → World → Prop} {x0 : Option Addr} {w : World} (h : S_client_Client_next R x0 w) : CallP P F_client_Client_next [.pointer x0] w R := calls_of_denF (an := an_client_Client_next) Try.func32 (by rw [e_client_Client_next]; exact h)


/-- (*penstock/client.Client).again -/
def S_client_Client_again (R : Value → World → Prop) (x0 : Option Addr) (w : World) : Prop :=
 nilCk x0 fun (a0 : Addr) =>
 RunQ .val P (Instr.loadAt T_api_Msg (.pointer (some (a0.add 13)))) w fun (v1 : Value) =>
  RunK .addr P (Instr.alloc T_api_Msg true (.tuple #[])) w fun (a2 : Addr) w3 =>
   StoreP P T_api_Msg (.pointer (some a2)) v1 w3 fun w4 =>
    ∃ S5 : World → Prop, (S5 w4.drew) ∧
      nilCk x0 fun (a6 : Addr) =>
       HRun S5 .sl P (Instr.loadAt T_sl_int (.pointer (some (a6.add 11)))) fun (s7 : Sl) =>
        CallP P F_client_Client_part [(.pointer x0)] w4.drew fun (v8 : Value) w9 =>
         TyP (.int .i64) v8 fun (n10 : Int) =>
          (S5 w9) ∧
           HRun S5 .addr P (Instr.indexAt T_sl_int s7.v (.int .i64 n10)) fun (a11 : Addr) =>
            HRun S5 (.int .i64) P (Instr.loadAt T_int (.pointer (some a11))) fun (n12 : Int) =>
             StoreP P T_int (.pointer (some (Go.Addr.add a2 2))) (.int .i64 n12) w9 fun w13 =>
              (S5 w13) ∧
               ∃ S14 : World → Prop, (S14 w13.drew) ∧
                nilCk x0 fun (a15 : Addr) =>
                HRun S14 .val P (Instr.loadAt T_api_Msg (.pointer (some a2))) fun (v16 : Value) =>
                (RunQ .sl P (Instr.loadAt T_sl_api_Msg (.pointer (some (a15.add 75)))) w13.drew fun (s17 : Sl) =>
                (S14 w13.drew) ∧
                RunK .sl P (Instr.buildSlice T_sl_api_Msg 1 #[(0, v16)]) w13.drew fun (s18 : Sl) w19 =>
                (S14 w19) ∧
                RunK .sl P (Builtin.append_ #[T_sl_api_Msg, T_sl_api_Msg] T_sl_api_Msg #[s17.v, s18.v]) w19 fun (s20 : Sl) w21 =>
                (S14 w21) ∧
                nilCk x0 fun (a22 : Addr) =>
                StoreP P T_sl_api_Msg (.pointer (some (a22.add 75))) s20.v w21 fun w23 =>
                (S14 w23) ∧
                R (.tuple #[]) w23) ∧
                (RunK .sl P (Instr.buildSlice T_sl_api_Msg 1 #[(0, v16)]) w13.drew fun (s24 : Sl) w25 =>
                (S14 w25) ∧
                RunQ .sl P (Instr.loadAt T_sl_api_Msg (.pointer (some (a15.add 75)))) w25 fun (s26 : Sl) =>
                (S14 w25) ∧
                RunK .sl P (Builtin.append_ #[T_sl_api_Msg, T_sl_api_Msg] T_sl_api_Msg #[s26.v, s24.v]) w25 fun (s27 : Sl) w28 =>
                (S14 w28) ∧
                nilCk x0 fun (a29 : Addr) =>
                StoreP P T_sl_api_Msg (.pointer (some (a29.add 75))) s27.v w28 fun w30 =>
                (S14 w30) ∧
                R (.tuple #[]) w30) ∧
                True
def an_client_Client_again : Ann := ⟨[], [], [2]⟩
theorem e_client_Client_again (R : Value → World → Prop) (x0 : Option Addr) (w : World) : denF P an_client_Client_again Try.f33 [.pointer x0] w R = S_client_Client_again R x0 w := by kernel_rfl
theorem c_client_Client_again {R : Value → World → Prop} {x0 : Option Addr} {w : World} (h : S_client_Client_again R x0 w) : CallP P F_client_Client_again [.pointer x0] w R := calls_of_denF (an := an_client_Client_again) Try.func33 (by rw [e_client_Client_again]; exact h)


/-- (*penstock/client.Client).take -/
def S_client_Client_take (R : Value → World → Prop) (x0 : Option Addr) (w : World) : Prop :=
 nilCk x0 fun (a0 : Addr) =>
 RunQ .sl P (Instr.loadAt T_sl_api_Msg (.pointer (some (a0.add 75)))) w fun (s1 : Sl) =>
  nilCk x0 fun (a2 : Addr) =>
   StoreP P T_sl_api_Msg (.pointer (some (a2.add 75))) (.slice none 0 0) w fun w3 =>
    R s1.v w3
def an_client_Client_take : Ann := ⟨[], [], []⟩
theorem e_client_Client_take (R : Value → World → Prop) (x0 : Option Addr) (w : World) : denF P an_client_Client_take Try.f34 [.pointer x0] w R = S_client_Client_take R x0 w := by kernel_rfl
theorem c_client_Client_take {R : Value → World → Prop} {x0 : Option Addr} {w : World} (h : S_client_Client_take R x0 w) : CallP P F_client_Client_take [.pointer x0] w R := calls_of_denF (an := an_client_Client_take) Try.func34 (by rw [e_client_Client_take]; exact h)


/-- (*penstock/client.Client).decide -/
def S_client_Client_decide (R : Value → World → Prop) (x0 : Option Addr) (w : World) : Prop :=
 nilCk x0 fun (a0 : Addr) =>
 RunQ .bool P (Instr.loadAt T_bool (.pointer (some (a0.add 9)))) w fun (b1 : Bool) =>
  ifB b1
   (R (.tuple #[]) w)
   (JoinP (T := Unit) (fun J2 =>
    nilCk x0 fun (a5 : Addr) =>
     RunQ (.int .i64) P (Instr.loadAt T_int (.pointer (some ((a5.add 77).add 4)))) w fun (n6 : Int) =>
      ifB (decide (n6 ≥ 0))
       (nilCk x0 fun (a7 : Addr) =>
        RunQ .bool P (Instr.loadAt T_bool (.pointer (some ((a7.add 77).add 0)))) w fun (b8 : Bool) =>
         ifB (!b8)
          (CallP P F_client_Client_ask [(.pointer x0), (.agg #[(.int .i64 7), (.int .i64 0), (.int .i64 0), (.int .i64 0), (.int .i64 0), (.int .i64 0), (.int .i64 0), (.int .i64 0), (.int .i64 0), (.int .i64 0), (.int .i64 0), (.int .i64 0), (.bool false), (.slice none 0 0), (.slice none 0 0), (.int .i64 0), (.int .i64 0), (.int .i64 0), (.int .i64 0), (.int .i64 0), (.int .i64 0), (.int .i64 0), (.int .i64 0), (.int .i64 0), (.bool false), (.int .i64 0), (.int .i64 0), (.int .i64 0), (.int .i64 0), (.slice none 0 0), (.int .i64 0), (.int .i64 0), (.int .i64 0), (.int .i64 0), (.int .i64 0), (.slice none 0 0), (.int .i64 0), (.int .i64 0), (.int .u64 0), (.int .i64 0), (.int .i64 0), (.bool false), (.bool false), (.bool false), (.slice none 0 0), (.int .i64 0), (.int .i64 0), (.int .i64 0), (.int .i64 0), (.int .u64 0), (.int .i64 0), (.bool false), (.int .i64 0), (.int .i64 0), (.int .i64 0), (.slice none 0 0), (.slice none 0 0), (.slice none 0 0), (.int .i64 0)])] w fun (v9 : Value) w10 =>
           TupP [] v9 fun (t11 : Unit) =>
            R (.tuple #[]) w10)
          (J2 (some ()) w))
       (J2 (some ()) w))
    fun t3 w4 =>
    nilCk x0 fun (a12 : Addr) =>
     RunQ (.int .i64) P (Instr.loadAt T_int (.pointer (some (a12.add 8)))) w4.drew fun (n13 : Int) =>
      nilCk x0 fun (a14 : Addr) =>
       RunQ .sl P (Instr.loadAt T_sl_api_Op (.pointer (some (a14.add 6)))) w4.drew fun (s15 : Sl) =>
        ifB (decide (n13 ≥ (↑s15.len : Int)))
         (nilCk x0 fun (a16 : Addr) =>
          StoreP P T_bool (.pointer (some (a16.add 9))) (.bool true) w4.drew fun w17 =>
           CallP P F_client_Client_tell [(.pointer x0), (.agg #[(.int .i64 7), (.int .i64 0), (.int .i64 0), (.int .i64 0), (.int .i64 0), (.string (ByteArray.mk #[])), (.int .i64 0)])] w17 fun (v18 : Value) w19 =>
            TupP [] v18 fun (t20 : Unit) =>
             R (.tuple #[]) w19)
         (∃ S21 : World → Prop, (S21 w4.drew.drew) ∧
           nilCk x0 fun (a22 : Addr) =>
            HRun S21 .sl P (Instr.loadAt T_sl_api_Op (.pointer (some (a22.add 6)))) fun (s23 : Sl) =>
             nilCk x0 fun (a24 : Addr) =>
              HRun S21 (.int .i64) P (Instr.loadAt T_int (.pointer (some (a24.add 8)))) fun (n25 : Int) =>
               HRun S21 .addr P (Instr.indexAt T_sl_api_Op s23.v (.int .i64 n25)) fun (a26 : Addr) =>
                HRun S21 .val P (Instr.loadAt T_api_Op (.pointer (some a26))) fun (v27 : Value) =>
                RunK .addr P (Instr.alloc T_api_Op true (.tuple #[])) w4.drew.drew fun (a28 : Addr) w29 =>
                (S21 w29) ∧
                StoreP P T_api_Op (.pointer (some a28)) v27 w29 fun w30 =>
                (S21 w30) ∧
                ∃ S31 : World → Prop, (S31 w30.drew) ∧
                HRun S31 (.int .i64) P (Instr.loadAt T_int (.pointer (some (Go.Addr.add a28 0)))) fun (n32 : Int) =>
                HRun S31 .val P (Instr.loadAt T_api_Op (.pointer (some a28))) fun (v33 : Value) =>
                CallP P F_client_deeds [] w30.drew fun (v34 : Value) w35 =>
                TyP .map v34 fun (m36 : Option Nat) =>
                (S31 w35) ∧
                RunV P (Instr.lookup T_map_int_func_p_client_Client_api_Op (.map m36) (.int .i64 n32) false) w35 fun (v37 : Value) w38 =>
                TyP .val v37 fun (v39 : Value) =>
                (S31 w38) ∧
                DynP P (Pk.callV v39 #[(.pointer x0), v33]) w38 fun (v40 : Value) w41 =>
                TupP [] v40 fun (t42 : Unit) =>
                (S31 w41) ∧
                R (.tuple #[]) w41))
def an_client_Client_decide : Ann := ⟨[(3, [])], [], []⟩
theorem e_client_Client_decide (R : Value → World → Prop) (x0 : Option Addr) (w : World) : denF P an_client_Client_decide Try.f35 [.pointer x0] w R = S_client_Client_decide R x0 w := by kernel_rfl
theorem c_client_Client_decide {R : Value → World → Prop} {x0 : Option Addr} {w : World} (h : S_client_Client_decide R x0 w) : CallP P F_client_Client_decide [.pointer x0] w R := calls_of_denF (an := an_client_Client_decide) Try.func35 (by rw [e_client_Client_decide]; exact h)


/-- slices.Clone[[]penstock/api.Seen,penstock/api.Seen] -/
def S_slices_Clone_api_Seen_api_Seen (R : Value → World → Prop) (x0 : Sl) (w : World) : Prop :=
 ifB x0.a.isNone
 (R (.slice none 0 0) w)
 (RunK .sl P (Instr.buildSlice T_sl_api_Seen 0 #[]) w fun (s0 : Sl) w1 =>
  RunK .sl P (Builtin.append_ #[T_sl_api_Seen, T_sl_api_Seen] T_sl_api_Seen #[s0.v, x0.v]) w1 fun (s2 : Sl) w3 =>
   R s2.v w3)
def an_slices_Clone_api_Seen_api_Seen : Ann := ⟨[], [], []⟩
theorem e_slices_Clone_api_Seen_api_Seen (R : Value → World → Prop) (x0 : Sl) (w : World) : denF P an_slices_Clone_api_Seen_api_Seen Try.f36 [x0.v] w R = S_slices_Clone_api_Seen_api_Seen R x0 w := by kernel_rfl
theorem c_slices_Clone_api_Seen_api_Seen {R : Value → World → Prop} {x0 : Sl} {w : World} (h : S_slices_Clone_api_Seen_api_Seen R x0 w) : CallP P F_slices_Clone_api_Seen_api_Seen [x0.v] w R := calls_of_denF (an := an_slices_Clone_api_Seen_api_Seen) Try.func36 (by rw [e_slices_Clone_api_Seen_api_Seen]; exact h)


/-- (*penstock/client.Client).away -/
def S_client_Client_away (R : Value → World → Prop) (x0 : Option Addr) (w : World) : Prop :=
 JoinP (T := Unit) (fun J0 =>
 ∃ S3 : World → Prop, (S3 w.drew) ∧
   nilCk x0 fun (a4 : Addr) =>
    HRun S3 (.int .i64) P (Instr.loadAt T_int (.pointer (some ((a4.add 2).add 1)))) fun (n5 : Int) =>
     nilCk x0 fun (a6 : Addr) =>
      HRun S3 (.int .i64) P (Instr.loadAt T_int (.pointer (some ((a6.add 2).add 1)))) fun (n7 : Int) =>
       (RunK .sl P (Instr.makeSlice T_sl_int (.int .i64 n5) (.int .i64 n5)) w.drew fun (s8 : Sl) w9 =>
         (S3 w9) ∧
          RunK .sl P (Instr.makeSlice T_sl_int (.int .i64 n7) (.int .i64 n7)) w9 fun (s10 : Sl) w11 =>
           (S3 w11) ∧
            nilCk x0 fun (a12 : Addr) =>
             StoreP P T_client_place (.pointer (some (a12.add 84))) (.agg #[(.bool false), (.int .i64 0), (.slice none 0 0), s8.v, s10.v, (.int .i64 0), (.int .i64 0), (.int .i64 0), (.int .i64 0), (.slice none 0 0), (.int .i64 0)]) w11 fun w13 =>
              (S3 w13) ∧
               J0 (some ()) w13) ∧
        (RunK .sl P (Instr.makeSlice T_sl_int (.int .i64 n7) (.int .i64 n7)) w.drew fun (s14 : Sl) w15 =>
          (S3 w15) ∧
           RunK .sl P (Instr.makeSlice T_sl_int (.int .i64 n5) (.int .i64 n5)) w15 fun (s16 : Sl) w17 =>
            (S3 w17) ∧
             nilCk x0 fun (a18 : Addr) =>
              StoreP P T_client_place (.pointer (some (a18.add 84))) (.agg #[(.bool false), (.int .i64 0), (.slice none 0 0), s16.v, s14.v, (.int .i64 0), (.int .i64 0), (.int .i64 0), (.int .i64 0), (.slice none 0 0), (.int .i64 0)]) w17 fun w19 =>
               (S3 w19) ∧
                J0 (some ()) w19) ∧
         True)
 fun t1 w2 =>
 nilCk x0 fun (a20 : Addr) =>
  RunQ .sl P (Instr.loadAt T_sl_int (.pointer (some ((a20.add 84).add 3)))) w2 fun (s21 : Sl) =>
   LoopP (T := Int × Unit) (some (0, ())) w2 fun next22 t23 w24 =>
    ifB (decide (t23.fst < (↑s21.len : Int)))
     (nilCk x0 fun (a25 : Addr) =>
      RunQ .sl P (Instr.loadAt T_sl_int (.pointer (some ((a25.add 84).add 3)))) w24 fun (s26 : Sl) =>
       RunQ .addr P (Instr.indexAt T_sl_int s26.v (.int .i64 t23.fst)) w24 fun (a27 : Addr) =>
        StoreP P T_int (.pointer (some a27)) (.int .i64 (-1)) w24 fun w28 =>
         next22 (some ((IntKind.i64.wrap (t23.fst + 1)), ())) w28)
     (R (.tuple #[]) w24)
def an_client_Client_away : Ann := ⟨[(1, [])], [(2, [(25, (.int .i64))])], []⟩
theorem e_client_Client_away (R : Value → World → Prop) (x0 : Option Addr) (w : World) : denF P an_client_Client_away Try.f49 [.pointer x0] w R = S_client_Client_away R x0 w := by kernel_rfl
theorem c_client_Client_away {R : Value → World → Prop} {x0 : Option Addr} {w : World} (h : S_client_Client_away R x0 w) : CallP P F_client_Client_away [.pointer x0] w R := calls_of_denF (an := an_client_Client_away) Try.func49 (by rw [e_client_Client_away]; exact h)


/-- (*penstock/client.Client).part -/
def S_client_Client_part (R : Value → World → Prop) (x0 : Option Addr) (w : World) : Prop :=
 JoinP (T := Unit) (fun J0 =>
 nilCk x0 fun (a3 : Addr) =>
  RunQ (.int .i64) P (Instr.loadAt T_int (.pointer (some ((a3.add 13).add 0)))) w fun (n4 : Int) =>
   ifB (n4 == 7)
    (nilCk x0 fun (a5 : Addr) =>
     RunQ (.int .i64) P (Instr.loadAt T_int (.pointer (some ((a5.add 2).add 1)))) w fun (n6 : Int) =>
      R (.int .i64 n6) w)
    (ifB (n4 == 8)
     (nilCk x0 fun (a7 : Addr) =>
      RunQ (.int .i64) P (Instr.loadAt T_int (.pointer (some ((a7.add 2).add 1)))) w fun (n8 : Int) =>
       R (.int .i64 n8) w)
     (ifB (n4 == 9)
      (nilCk x0 fun (a9 : Addr) =>
       RunQ (.int .i64) P (Instr.loadAt T_int (.pointer (some ((a9.add 2).add 1)))) w fun (n10 : Int) =>
        R (.int .i64 n10) w)
      (ifB (n4 == 5)
       (nilCk x0 fun (a11 : Addr) =>
        RunQ (.int .i64) P (Instr.loadAt T_int (.pointer (some ((a11.add 13).add 45)))) w fun (n12 : Int) =>
         R (.int .i64 n12) w)
       (ifB (n4 == 6)
        (nilCk x0 fun (a13 : Addr) =>
         RunQ (.int .i64) P (Instr.loadAt T_int (.pointer (some ((a13.add 13).add 45)))) w fun (n14 : Int) =>
          R (.int .i64 n14) w)
        (J0 (some ()) w))))))
 fun t1 w2 =>
 nilCk x0 fun (a15 : Addr) =>
  RunQ (.int .i64) P (Instr.loadAt T_int (.pointer (some ((a15.add 2).add 1)))) w2 fun (n16 : Int) =>
   R (.int .i64 (IntKind.i64.wrap (n16 + 1))) w2
def an_client_Client_part : Ann := ⟨[(9, [])], [], []⟩
theorem e_client_Client_part (R : Value → World → Prop) (x0 : Option Addr) (w : World) : denF P an_client_Client_part Try.f50 [.pointer x0] w R = S_client_Client_part R x0 w := by kernel_rfl
theorem c_client_Client_part {R : Value → World → Prop} {x0 : Option Addr} {w : World} (h : S_client_Client_part R x0 w) : CallP P F_client_Client_part [.pointer x0] w R := calls_of_denF (an := an_client_Client_part) Try.func50 (by rw [e_client_Client_part]; exact h)


/-- (*penstock/client.Client).ask -/
def S_client_Client_ask (R : Value → World → Prop) (x0 : Option Addr) (x1 : Value) (w : World) : Prop :=
 RunK .addr P (Instr.box T_api_Msg x1) w fun (a0 : Addr) w1 =>
 nilCk x0 fun (a2 : Addr) =>
  RunQ (.int .i64) P (Instr.loadAt T_int (.pointer (some (a2.add 12)))) w1 fun (n3 : Int) =>
   nilCk x0 fun (a4 : Addr) =>
    StoreP P T_int (.pointer (some (a4.add 12))) (.int .i64 (IntKind.i64.wrap (n3 + 1))) w1 fun w5 =>
     ∃ S6 : World → Prop, (S6 w5.drew) ∧
       nilCk x0 fun (a7 : Addr) =>
        HRun S6 (.int .i64) P (Instr.loadAt T_int (.pointer (some (a7.add 0)))) fun (n8 : Int) =>
         nilCk x0 fun (a9 : Addr) =>
          HRun S6 (.int .i64) P (Instr.loadAt T_int (.pointer (some (a9.add 12)))) fun (n10 : Int) =>
           StoreP P T_int (.pointer (some (Go.Addr.add a0 1))) (.int .i64 n8) w5.drew fun w11 =>
            (S6 w11) ∧
             StoreP P T_int (.pointer (some (Go.Addr.add a0 3))) (.int .i64 n10) w11 fun w12 =>
              (S6 w12) ∧
               ∃ S13 : World → Prop, (S13 w12.drew) ∧
                nilCk x0 fun (a14 : Addr) =>
                HRun S13 (.int .i64) P (Instr.loadAt T_int (.pointer (some (a14.add 1)))) fun (n15 : Int) =>
                nilCk x0 fun (a16 : Addr) =>
                HRun S13 (.int .i64) P (Instr.loadAt T_int (.pointer (some (a16.add 10)))) fun (n17 : Int) =>
                nilCk x0 fun (a18 : Addr) =>
                HRun S13 (.int .i64) P (Instr.loadAt T_int (.pointer (some (a18.add 7)))) fun (n19 : Int) =>
                nilCk x0 fun (a20 : Addr) =>
                HRun S13 (.int .i64) P (Instr.loadAt T_int (.pointer (some (a20.add 1)))) fun (n21 : Int) =>
                StoreP P T_int (.pointer (some (Go.Addr.add a0 47))) (.int .i64 n15) w12.drew fun w22 =>
                (S13 w22) ∧
                StoreP P T_int (.pointer (some (Go.Addr.add a0 48))) (.int .i64 n17) w22 fun w23 =>
                (S13 w23) ∧
                StoreP P T_int (.pointer (some (Go.Addr.add a0 52))) (.int .i64 n19) w23 fun w24 =>
                (S13 w24) ∧
                StoreP P T_int (.pointer (some (Go.Addr.add a0 54))) (.int .i64 n21) w24 fun w25 =>
                (S13 w25) ∧
                RunQ .val P (Instr.loadAt T_api_Msg (.pointer (some a0))) w25 fun (v26 : Value) =>
                nilCk x0 fun (a27 : Addr) =>
                StoreP P T_api_Msg (.pointer (some (a27.add 13))) v26 w25 fun w28 =>
                nilCk x0 fun (a29 : Addr) =>
                StoreP P T_bool (.pointer (some (a29.add 72))) (.bool true) w28 fun w30 =>
                nilCk x0 fun (a31 : Addr) =>
                StoreP P T_int (.pointer (some (a31.add 73))) (.int .i64 0) w30 fun w32 =>
                nilCk x0 fun (a33 : Addr) =>
                StoreP P T_bool (.pointer (some (a33.add 74))) (.bool false) w32 fun w34 =>
                CallP P F_client_Client_again [(.pointer x0)] w34 fun (v35 : Value) w36 =>
                TupP [] v35 fun (t37 : Unit) =>
                R (.tuple #[]) w36
def an_client_Client_ask : Ann := ⟨[], [], []⟩
theorem e_client_Client_ask (R : Value → World → Prop) (x0 : Option Addr) (x1 : Value) (w : World) : denF P an_client_Client_ask Try.f51 [.pointer x0, x1] w R = S_client_Client_ask R x0 x1 w := by kernel_rfl
theorem c_client_Client_ask {R : Value → World → Prop} {x0 : Option Addr} {x1 : Value} {w : World} (h : S_client_Client_ask R x0 x1 w) : CallP P F_client_Client_ask [.pointer x0, x1] w R := calls_of_denF (an := an_client_Client_ask) Try.func51 (by rw [e_client_Client_ask]; exact h)


/-- (*penstock/client.Client).tell -/
def S_client_Client_tell (R : Value → World → Prop) (x0 : Option Addr) (x1 : Value) (w : World) : Prop :=
 RunK .addr P (Instr.box T_api_Seen x1) w fun (a0 : Addr) w1 =>
 ∃ S2 : World → Prop, (S2 w1.drew) ∧
   nilCk x0 fun (a3 : Addr) =>
    HRun S2 (.int .i64) P (Instr.loadAt T_int (.pointer (some (a3.add 1)))) fun (n4 : Int) =>
     nilCk x0 fun (a5 : Addr) =>
      HRun S2 (.int .i64) P (Instr.loadAt T_int (.pointer (some (a5.add 8)))) fun (n6 : Int) =>
       StoreP P T_int (.pointer (some (Go.Addr.add a0 1))) (.int .i64 n4) w1.drew fun w7 =>
        (S2 w7) ∧
         StoreP P T_int (.pointer (some (Go.Addr.add a0 2))) (.int .i64 n6) w7 fun w8 =>
          (S2 w8) ∧
           ∃ S9 : World → Prop, (S9 w8.drew) ∧
             nilCk x0 fun (a10 : Addr) =>
              HRun S9 .val P (Instr.loadAt T_api_Seen (.pointer (some a0))) fun (v11 : Value) =>
               (RunQ .sl P (Instr.loadAt T_sl_api_Seen (.pointer (some (a10.add 76)))) w8.drew fun (s12 : Sl) =>
                (S9 w8.drew) ∧
                RunK .sl P (Instr.buildSlice T_sl_api_Seen 1 #[(0, v11)]) w8.drew fun (s13 : Sl) w14 =>
                (S9 w14) ∧
                RunK .sl P (Builtin.append_ #[T_sl_api_Seen, T_sl_api_Seen] T_sl_api_Seen #[s12.v, s13.v]) w14 fun (s15 : Sl) w16 =>
                (S9 w16) ∧
                nilCk x0 fun (a17 : Addr) =>
                StoreP P T_sl_api_Seen (.pointer (some (a17.add 76))) s15.v w16 fun w18 =>
                (S9 w18) ∧
                R (.tuple #[]) w18) ∧
                (RunK .sl P (Instr.buildSlice T_sl_api_Seen 1 #[(0, v11)]) w8.drew fun (s19 : Sl) w20 =>
                (S9 w20) ∧
                RunQ .sl P (Instr.loadAt T_sl_api_Seen (.pointer (some (a10.add 76)))) w20 fun (s21 : Sl) =>
                (S9 w20) ∧
                RunK .sl P (Builtin.append_ #[T_sl_api_Seen, T_sl_api_Seen] T_sl_api_Seen #[s21.v, s19.v]) w20 fun (s22 : Sl) w23 =>
                (S9 w23) ∧
                nilCk x0 fun (a24 : Addr) =>
                StoreP P T_sl_api_Seen (.pointer (some (a24.add 76))) s22.v w23 fun w25 =>
                (S9 w25) ∧
                R (.tuple #[]) w25) ∧
                True
def an_client_Client_tell : Ann := ⟨[], [], [2]⟩
theorem e_client_Client_tell (R : Value → World → Prop) (x0 : Option Addr) (x1 : Value) (w : World) : denF P an_client_Client_tell Try.f52 [.pointer x0, x1] w R = S_client_Client_tell R x0 x1 w := by kernel_rfl
theorem c_client_Client_tell {R : Value → World → Prop} {x0 : Option Addr} {x1 : Value} {w : World} (h : S_client_Client_tell R x0 x1 w) : CallP P F_client_Client_tell [.pointer x0, x1] w R := calls_of_denF (an := an_client_Client_tell) Try.func52 (by rw [e_client_Client_tell]; exact h)


/-- penstock/client.deeds -/
def S_client_deeds (R : Value → World → Prop) (w : World) : Prop :=
 RunK .map P (Instr.makeMap T_map_int_func_p_client_Client_api_Op none) w fun (m0 : Option Nat) w1 =>
 RunU P (Instr.mapUpdate T_map_int_func_p_client_Client_api_Op (.map m0) (.int .i64 1) (.func (Go.Fn.func 65) #[] #[])) w1 fun w2 =>
  RunU P (Instr.mapUpdate T_map_int_func_p_client_Client_api_Op (.map m0) (.int .i64 2) (.func (Go.Fn.func 66) #[] #[])) w2 fun w3 =>
   RunU P (Instr.mapUpdate T_map_int_func_p_client_Client_api_Op (.map m0) (.int .i64 3) (.func (Go.Fn.func 66) #[] #[])) w3 fun w4 =>
    RunU P (Instr.mapUpdate T_map_int_func_p_client_Client_api_Op (.map m0) (.int .i64 4) (.func (Go.Fn.func 67) #[] #[])) w4 fun w5 =>
     RunU P (Instr.mapUpdate T_map_int_func_p_client_Client_api_Op (.map m0) (.int .i64 5) (.func (Go.Fn.func 68) #[] #[])) w5 fun w6 =>
      R (.map m0) w6
def an_client_deeds : Ann := ⟨[], [], []⟩
theorem e_client_deeds (R : Value → World → Prop) (w : World) : denF P an_client_deeds Try.f53 [] w R = S_client_deeds R  w := by kernel_rfl
theorem c_client_deeds {R : Value → World → Prop} {w : World} (h : S_client_deeds R  w) : CallP P F_client_deeds [] w R := calls_of_denF (an := an_client_deeds) Try.func53 (by rw [e_client_deeds]; exact h)


/-- (*penstock/client.Client).ended -/
def S_client_Client_ended (R : Value → World → Prop) (x0 : Option Addr) (x1 : Bool) (w : World) : Prop :=
 JoinP (T := Int × Unit) (fun J0 =>
 ifB x1
  (J0 (some (2, ())) w)
  (J0 (some (3, ())) w))
 fun t1 w2 =>
 CallP P F_client_Client_tell [(.pointer x0), (.agg #[(.int .i64 t1.fst), (.int .i64 0), (.int .i64 0), (.int .i64 0), (.int .i64 0), (.string (ByteArray.mk #[])), (.int .i64 0)])] w2 fun (v3 : Value) w4 =>
  TupP [] v3 fun (t5 : Unit) =>
   nilCk x0 fun (a6 : Addr) =>
    RunQ (.int .i64) P (Instr.loadAt T_int (.pointer (some (a6.add 8)))) w4 fun (n7 : Int) =>
     nilCk x0 fun (a8 : Addr) =>
      StoreP P T_int (.pointer (some (a8.add 8))) (.int .i64 (IntKind.i64.wrap (n7 + 1))) w4 fun w9 =>
       CallP P F_client_Client_close [(.pointer x0)] w9 fun (v10 : Value) w11 =>
        TupP [] v10 fun (t12 : Unit) =>
         R (.tuple #[]) w11
def an_client_Client_ended : Ann := ⟨[(3, [(4, (.int .i64))])], [], []⟩
theorem e_client_Client_ended (R : Value → World → Prop) (x0 : Option Addr) (x1 : Bool) (w : World) : denF P an_client_Client_ended Try.f62 [.pointer x0, .bool x1] w R = S_client_Client_ended R x0 x1 w := by kernel_rfl
theorem c_client_Client_ended {R : Value → World → Prop} {x0 : Option Addr} {x1 : Bool} {w : World} (h : S_client_Client_ended R x0 x1 w) : CallP P F_client_Client_ended [.pointer x0, .bool x1] w R := calls_of_denF (an := an_client_Client_ended) Try.func62 (by rw [e_client_Client_ended]; exact h)


/-- (*penstock/client.Client).write -/
def S_client_Client_write (R : Value → World → Prop) (x0 : Option Addr) (x1 : Value) (w : World) : Prop :=
 RunK .addr P (Instr.box T_api_Op x1) w fun (a0 : Addr) w1 =>
 RunQ (.int .i64) P (Instr.loadAt T_int (.pointer (some (Go.Addr.add a0 1)))) w1 fun (n2 : Int) =>
  RunQ .str P (Instr.loadAt T_string (.pointer (some (Go.Addr.add a0 4)))) w1 fun (t3 : ByteArray) =>
   RunK .sl P (Instr.buildSlice T_sl_string 1 #[(0, (.string t3))]) w1 fun (s4 : Sl) w5 =>
    CallP P F_client_Client_send [(.pointer x0), (.int .i64 n2), s4.v] w5 fun (v6 : Value) w7 =>
     TupP [] v6 fun (t8 : Unit) =>
      R (.tuple #[]) w7
def an_client_Client_write : Ann := ⟨[], [], []⟩
theorem e_client_Client_write (R : Value → World → Prop) (x0 : Option Addr) (x1 : Value) (w : World) : denF P an_client_Client_write Try.f65 [.pointer x0, x1] w R = S_client_Client_write R x0 x1 w := by kernel_rfl
theorem c_client_Client_write {R : Value → World → Prop} {x0 : Option Addr} {x1 : Value} {w : World} (h : S_client_Client_write R x0 x1 w) : CallP P F_client_Client_write [.pointer x0, x1] w R := calls_of_denF (an := an_client_Client_write) Try.func65 (by rw [e_client_Client_write]; exact h)


/-- (*penstock/client.Client).finish -/
def S_client_Client_finish (R : Value → World → Prop) (x0 : Option Addr) (x1 : Value) (w : World) : Prop :=
 RunK .addr P (Instr.box T_api_Op x1) w fun (a0 : Addr) w1 =>
 RunQ (.int .i64) P (Instr.loadAt T_int (.pointer (some (Go.Addr.add a0 0)))) w1 fun (n2 : Int) =>
  CallP P F_client_Client_end [(.pointer x0), (.bool (n2 == 2))] w1 fun (v3 : Value) w4 =>
   TupP [] v3 fun (t5 : Unit) =>
    R (.tuple #[]) w4
def an_client_Client_finish : Ann := ⟨[], [], []⟩
theorem e_client_Client_finish (R : Value → World → Prop) (x0 : Option Addr) (x1 : Value) (w : World) : denF P an_client_Client_finish Try.f66 [.pointer x0, x1] w R = S_client_Client_finish R x0 x1 w := by kernel_rfl
theorem c_client_Client_finish {R : Value → World → Prop} {x0 : Option Addr} {x1 : Value} {w : World} (h : S_client_Client_finish R x0 x1 w) : CallP P F_client_Client_finish [.pointer x0, x1] w R := calls_of_denF (an := an_client_Client_finish) Try.func66 (by rw [e_client_Client_finish]; exact h)


/-- (*penstock/client.Client).close -/
def S_client_Client_close (R : Value → World → Prop) (x0 : Option Addr) (w : World) : Prop :=
 nilCk x0 fun (a0 : Addr) =>
 StoreP P T_int (.pointer (some ((a0.add 77).add 4))) (.int .i64 (-1)) w fun w1 =>
  nilCk x0 fun (a2 : Addr) =>
   StoreP P T_sl_int (.pointer (some ((a2.add 77).add 5))) (.slice none 0 0) w1 fun w3 =>
    nilCk x0 fun (a4 : Addr) =>
     RunQ (.int .i64) P (Instr.loadAt T_int (.pointer (some ((a4.add 2).add 1)))) w3 fun (n5 : Int) =>
      RunK .sl P (Instr.makeSlice T_sl_int (.int .i64 (IntKind.i64.wrap (n5 + 2))) (.int .i64 (IntKind.i64.wrap (n5 + 2)))) w3 fun (s6 : Sl) w7 =>
       nilCk x0 fun (a8 : Addr) =>
        StoreP P T_sl_int (.pointer (some ((a8.add 77).add 6))) s6.v w7 fun w9 =>
         nilCk x0 fun (a10 : Addr) =>
          StoreP P T_int (.pointer (some ((a10.add 84).add 10))) (.int .i64 0) w9 fun w11 =>
           R (.tuple #[]) w11
def an_client_Client_close : Ann := ⟨[], [], []⟩
theorem e_client_Client_close (R : Value → World → Prop) (x0 : Option Addr) (w : World) : denF P an_client_Client_close Try.f70 [.pointer x0] w R = S_client_Client_close R x0 w := by kernel_rfl
theorem c_client_Client_close {R : Value → World → Prop} {x0 : Option Addr} {w : World} (h : S_client_Client_close R x0 w) : CallP P F_client_Client_close [.pointer x0] w R := calls_of_denF (an := an_client_Client_close) Try.func70 (by rw [e_client_Client_close]; exact h)


/-- penstock/penstockref03.Same -/
def S_ref03_Same (R : Value → World → Prop) (x0 : Sl) (x1 : Sl) (w : World) : Prop :=
 ifB ((↑x0.len : Int) != (↑x1.len : Int))
 (R (.bool false) w)
 (LoopP (T := Int × Unit) (some (0, ())) w fun next0 t1 w2 =>
  ifB (decide (t1.fst < (↑x0.len : Int)))
   (RunQ .addr P (Instr.indexAt T_sl_uint8 x0.v (.int .i64 t1.fst)) w2.drew fun (a3 : Addr) =>
    RunQ (.int .u8) P (Instr.loadAt T_uint8 (.pointer (some a3))) w2.drew fun (n4 : Int) =>
     RunQ .addr P (Instr.indexAt T_sl_uint8 x1.v (.int .i64 t1.fst)) w2.drew fun (a5 : Addr) =>
      RunQ (.int .u8) P (Instr.loadAt T_uint8 (.pointer (some a5))) w2.drew fun (n6 : Int) =>
       ifB (n4 != n6)
        (R (.bool false) w2.drew)
        (next0 (some ((IntKind.i64.wrap (t1.fst + 1)), ())) w2.drew))
   (R (.bool true) w2))
def an_ref03_Same : Ann := ⟨[], [(4, [(5, (.int .i64))])], []⟩
theorem e_ref03_Same (R : Value → World → Prop) (x0 : Sl) (x1 : Sl) (w : World) : denF P an_ref03_Same Try.f73 [x0.v, x1.v] w R = S_ref03_Same R x0 x1 w := by kernel_rfl
theorem c_ref03_Same {R : Value → World → Prop} {x0 : Sl} {x1 : Sl} {w : World} (h : S_ref03_Same R x0 x1 w) : CallP P F_ref03_Same [x0.v, x1.v] w R := calls_of_denF (an := an_ref03_Same) Try.func73 (by rw [e_ref03_Same]; exact h)


/-- (*penstock/client.Client).send -/
def S_client_Client_send (R : Value → World → Prop) (x0 : Option Addr) (x1 : Int) (x2 : Sl) (w : World) : Prop :=
 CallP P F_client_Client_prepare [(.pointer x0), (.int .i64 x1)] w fun (v0 : Value) w1 =>
 TyP .bool v0 fun (b2 : Bool) =>
  ifB (!b2)
   (R (.tuple #[]) w1)
   (∃ S3 : World → Prop, (S3 w1.drew) ∧
     nilCk x0 fun (a4 : Addr) =>
      HRun S3 (.int .u64) P (Instr.loadAt T_uint64 (.pointer (some ((a4.add 77).add 1)))) fun (n5 : Int) =>
       nilCk x0 fun (a6 : Addr) =>
        HRun S3 (.int .i64) P (Instr.loadAt T_int (.pointer (some ((a6.add 77).add 2)))) fun (n7 : Int) =>
         nilCk x0 fun (a8 : Addr) =>
          HRun S3 .sl P (Instr.loadAt T_sl_int (.pointer (some ((a8.add 77).add 6)))) fun (s9 : Sl) =>
           HRun S3 .addr P (Instr.indexAt T_sl_int s9.v (.int .i64 x1)) fun (a10 : Addr) =>
            HRun S3 (.int .i64) P (Instr.loadAt T_int (.pointer (some a10))) fun (n11 : Int) =>
             RunK .addr P (Instr.alloc T_api_Batch true (.tuple #[])) w1.drew fun (a12 : Addr) w13 =>
              (S3 w13) ∧
               StoreP P T_api_Batch (.pointer (some a12)) (.agg #[(.int .i64 0), (.int .i64 0), (.int .u64 n5), (.int .i64 n7), (.int .i64 n11), (.bool true), (.bool false), (.bool false), (.slice none 0 0)]) w13 fun w14 =>
                (S3 w14) ∧
                LoopP (T := Int × Unit) (some (0, ())) w14 fun next15 t16 w17 =>
                ifB (decide (t16.fst < (↑x2.len : Int)))
                (RunQ .addr P (Instr.indexAt T_sl_string x2.v (.int .i64 t16.fst)) w17 fun (a18 : Addr) =>
                RunQ .str P (Instr.loadAt T_string (.pointer (some a18))) w17 fun (t19 : ByteArray) =>
                RunQ .sl P (Instr.loadAt T_sl_sl_uint8 (.pointer (some (Go.Addr.add a12 8)))) w17 fun (s20 : Sl) =>
                RunK .sl P (convert T_string T_sl_uint8 (.string t19)) w17 fun (s21 : Sl) w22 =>
                RunK .sl P (Instr.buildSlice T_sl_sl_uint8 1 #[(0, s21.v)]) w22 fun (s23 : Sl) w24 =>
                RunK .sl P (Builtin.append_ #[T_sl_sl_uint8, T_sl_sl_uint8] T_sl_sl_uint8 #[s20.v, s23.v]) w24 fun (s25 : Sl) w26 =>
                StoreP P T_sl_sl_uint8 (.pointer (some (Go.Addr.add a12 8))) s25.v w26 fun w27 =>
                next15 (some ((IntKind.i64.wrap (t16.fst + 1)), ())) w27)
                (RunQ .val P (Instr.loadAt T_api_Batch (.pointer (some a12))) w17 fun (v28 : Value) =>
                RunQ .val P (Instr.build T_api_Msg #[(0, (.int .i64 5)), (10, (.int .i64 x1)), (9, v28)]) w17 fun (v29 : Value) =>
                CallP P F_client_Client_ask [(.pointer x0), v29] w17 fun (v30 : Value) w31 =>
                TupP [] v30 fun (t32 : Unit) =>
                R (.tuple #[]) w31))
def an_client_Client_send : Ann := ⟨[], [(3, [(34, (.int .i64))])], []⟩
theorem e_client_Client_send (R : Value → World → Prop) (x0 : Option Addr) (x1 : Int) (x2 : Sl) (w : World) : denF P an_client_Client_send Try.f74 [.pointer x0, .int .i64 x1, x2.v] w R = S_client_Client_send R x0 x1 x2 w := by kernel_rfl
theorem c_client_Client_send {R : Value → World → Prop} {x0 : Option Addr} {x1 : Int} {x2 : Sl} {w : World} (h : S_client_Client_send R x0 x1 x2 w) : CallP P F_client_Client_send [.pointer x0, .int .i64 x1, x2.v] w R := calls_of_denF (an := an_client_Client_send) Try.func74 (by rw [e_client_Client_send]; exact h)


/-- (*penstock/client.Client).end -/
def S_client_Client_end (R : Value → World → Prop) (x0 : Option Addr) (x1 : Bool) (w : World) : Prop :=
 nilCk x0 fun (a0 : Addr) =>
 RunQ (.int .i64) P (Instr.loadAt T_int (.pointer (some ((a0.add 77).add 4)))) w fun (n1 : Int) =>
  ifB (decide (n1 < 0))
   (CallP P F_client_Client_ended [(.pointer x0), (.bool x1)] w fun (v2 : Value) w3 =>
    TupP [] v2 fun (t4 : Unit) =>
     R (.tuple #[]) w3)
   (∃ S5 : World → Prop, (S5 w.drew) ∧
     nilCk x0 fun (a6 : Addr) =>
      HRun S5 (.int .u64) P (Instr.loadAt T_uint64 (.pointer (some ((a6.add 77).add 1)))) fun (n7 : Int) =>
       nilCk x0 fun (a8 : Addr) =>
        HRun S5 (.int .i64) P (Instr.loadAt T_int (.pointer (some ((a8.add 77).add 4)))) fun (n9 : Int) =>
         CallP P F_client_Client_ask [(.pointer x0), (.agg #[(.int .i64 9), (.int .i64 0), (.int .i64 0), (.int .i64 0), (.int .i64 0), (.int .i64 0), (.int .i64 0), (.int .i64 0), (.int .i64 0), (.int .i64 0), (.int .i64 0), (.int .i64 0), (.bool false), (.slice none 0 0), (.slice none 0 0), (.int .i64 0), (.int .i64 0), (.int .i64 0), (.int .i64 0), (.int .i64 0), (.int .i64 0), (.int .i64 0), (.int .i64 0), (.int .i64 0), (.bool false), (.int .i64 0), (.int .i64 0), (.int .i64 0), (.int .i64 0), (.slice none 0 0), (.int .i64 0), (.int .i64 0), (.int .i64 0), (.int .i64 0), (.int .i64 0), (.slice none 0 0), (.int .i64 0), (.int .i64 0), (.int .u64 0), (.int .i64 0), (.int .i64 0), (.bool false), (.bool false), (.bool false), (.slice none 0 0), (.int .i64 0), (.int .i64 0), (.int .i64 0), (.int .i64 0), (.int .u64 n7), (.int .i64 n9), (.bool x1), (.int .i64 0), (.int .i64 0), (.int .i64 0), (.slice none 0 0), (.slice none 0 0), (.slice none 0 0), (.int .i64 0)])] w.drew fun (v10 : Value) w11 =>
          TupP [] v10 fun (t12 : Unit) =>
           (S5 w11) ∧
            R (.tuple #[]) w11)
def an_client_Client_end : Ann := ⟨[], [], []⟩
theorem e_client_Client_end (R : Value → World → Prop) (x0 : Option Addr) (x1 : Bool) (w : World) : denF P an_client_Client_end Try.f75 [.pointer x0, .bool x1] w R = S_client_Client_end R x0 x1 w := by kernel_rfl
theorem c_client_Client_end {R : Value → World → Prop} {x0 : Option Addr} {x1 : Bool} {w : World} (h : S_client_Client_end R x0 x1 w) : CallP P F_client_Client_end [.pointer x0, .bool x1] w R := calls_of_denF (an := an_client_Client_end) Try.func75 (by rw [e_client_Client_end]; exact h)


/-- (*penstock/client.Client).settle -/
def S_client_Client_settle (R : Value → World → Prop) (x0 : Option Addr) (x1 : Sl) (w : World) : Prop :=
 nilCk x0 fun (a0 : Addr) =>
 RunQ .bool P (Instr.loadAt T_bool (.pointer (some ((a0.add 84).add 0)))) w fun (b1 : Bool) =>
  ifB (!b1)
   (CallP P F_client_Client_ask [(.pointer x0), (.agg #[(.int .i64 11), (.int .i64 0), (.int .i64 0), (.int .i64 0), (.int .i64 0), (.int .i64 0), (.int .i64 0), (.int .i64 0), (.int .i64 0), (.int .i64 0), (.int .i64 0), (.int .i64 0), (.bool false), (.slice none 0 0), (.slice none 0 0), (.int .i64 0), (.int .i64 0), (.int .i64 0), (.int .i64 0), (.int .i64 0), (.int .i64 0), (.int .i64 0), (.int .i64 0), (.int .i64 0), (.bool false), (.int .i64 0), (.int .i64 0), (.int .i64 0), (.int .i64 0), (.slice none 0 0), (.int .i64 0), (.int .i64 0), (.int .i64 0), (.int .i64 0), (.int .i64 0), (.slice none 0 0), (.int .i64 0), (.int .i64 0), (.int .u64 0), (.int .i64 0), (.int .i64 0), (.bool false), (.bool false), (.bool false), (.slice none 0 0), (.int .i64 0), (.int .i64 0), (.int .i64 0), (.int .i64 0), (.int .u64 0), (.int .i64 0), (.bool false), (.int .i64 0), (.int .i64 0), (.int .i64 0), (.slice none 0 0), (.slice none 0 0), (.slice none 0 0), (.int .i64 0)])] w fun (v2 : Value) w3 =>
    TupP [] v2 fun (t4 : Unit) =>
     R (.bool false) w3)
   (LoopP (T := Int × Unit) (some (0, ())) w fun next5 t6 w7 =>
    ifB (decide (t6.fst < (↑x1.len : Int)))
     (RunQ .addr P (Instr.indexAt T_sl_int x1.v (.int .i64 t6.fst)) w7 fun (a8 : Addr) =>
      RunQ (.int .i64) P (Instr.loadAt T_int (.pointer (some a8))) w7 fun (n9 : Int) =>
       nilCk x0 fun (a10 : Addr) =>
        RunQ .sl P (Instr.loadAt T_sl_int (.pointer (some ((a10.add 84).add 3)))) w7 fun (s11 : Sl) =>
         RunQ .addr P (Instr.indexAt T_sl_int s11.v (.int .i64 n9)) w7 fun (a12 : Addr) =>
          RunQ (.int .i64) P (Instr.loadAt T_int (.pointer (some a12))) w7 fun (n13 : Int) =>
           ifB (decide (n13 < 0))
            (CallP P F_client_Client_ask [(.pointer x0), (.agg #[(.int .i64 14), (.int .i64 0), (.int .i64 0), (.int .i64 0), (.int .i64 0), (.int .i64 0), (.int .i64 0), (.int .i64 0), (.int .i64 0), (.int .i64 0), (.int .i64 0), (.int .i64 0), (.bool false), (.slice none 0 0), (.slice none 0 0), (.int .i64 0), (.int .i64 0), (.int .i64 0), (.int .i64 0), (.int .i64 0), (.int .i64 0), (.int .i64 0), (.int .i64 0), (.int .i64 0), (.bool false), (.int .i64 0), (.int .i64 0), (.int .i64 0), (.int .i64 0), (.slice none 0 0), (.int .i64 0), (.int .i64 0), (.int .i64 0), (.int .i64 0), (.int .i64 0), (.slice none 0 0), (.int .i64 0), (.int .i64 0), (.int .u64 0), (.int .i64 0), (.int .i64 0), (.bool false), (.bool false), (.bool false), (.slice none 0 0), (.int .i64 n9), (.int .i64 0), (.int .i64 0), (.int .i64 0), (.int .u64 0), (.int .i64 0), (.bool false), (.int .i64 0), (.int .i64 0), (.int .i64 0), (.slice none 0 0), (.slice none 0 0), (.slice none 0 0), (.int .i64 0)])] w7 fun (v14 : Value) w15 =>
             TupP [] v14 fun (t16 : Unit) =>
              R (.bool false) w15)
            (next5 (some ((IntKind.i64.wrap (t6.fst + 1)), ())) w7))
     (R (.bool true) w7))
def an_client_Client_settle : Ann := ⟨[], [(5, [(18, (.int .i64))])], []⟩
theorem e_client_Client_settle (R : Value → World → Prop) (x0 : Option Addr) (x1 : Sl) (w : World) : denF P an_client_Client_settle Try.f76 [.pointer x0, x1.v] w R = S_client_Client_settle R x0 x1 w := by kernel_rfl
theorem c_client_Client_settle {R : Value → World → Prop} {x0 : Option Addr} {x1 : Sl} {w : World} (h : S_client_Client_settle R x0 x1 w) : CallP P F_client_Client_settle [.pointer x0, x1.v] w R := calls_of_denF (an := an_client_Client_settle) Try.func76 (by rw [e_client_Client_settle]; exact h)


/-- slices.Contains[[]int,int] -/
def S_slices_Contains_int_int (R : Value → World → Prop) (x0 : Sl) (x1 : Int) (w : World) : Prop :=
 CallP P F_slices_Index_int_int [x0.v, (.int .i64 x1)] w fun (v0 : Value) w1 =>
 TyP (.int .i64) v0 fun (n2 : Int) =>
  R (.bool (decide (n2 ≥ 0))) w1
def an_slices_Contains_int_int : Ann := ⟨[], [], []⟩
theorem e_slices_Contains_int_int (R : Value → World → Prop) (x0 : Sl) (x1 : Int) (w : World) : denF P an_slices_Contains_int_int Try.f77 [x0.v, .int .i64 x1] w R = S_slices_Contains_int_int R x0 x1 w := by kernel_rfl
theorem c_slices_Contains_int_int {R : Value → World → Prop} {x0 : Sl} {x1 : Int} {w : World} (h : S_slices_Contains_int_int R x0 x1 w) : CallP P F_slices_Contains_int_int [x0.v, .int .i64 x1] w R := calls_of_denF (an := an_slices_Contains_int_int) Try.func77 (by rw [e_slices_Contains_int_int]; exact h)


/-- (*penstock/client.Client).prepare -/
def S_client_Client_prepare (R : Value → World → Prop) (x0 : Option Addr) (x1 : Int) (w : World) : Prop :=
 nilCk x0 fun (a0 : Addr) =>
 RunQ .bool P (Instr.loadAt T_bool (.pointer (some ((a0.add 77).add 0)))) w fun (b1 : Bool) =>
  ifB (!b1)
   (CallP P F_client_Client_ask [(.pointer x0), (.agg #[(.int .i64 7), (.int .i64 0), (.int .i64 0), (.int .i64 0), (.int .i64 0), (.int .i64 0), (.int .i64 0), (.int .i64 0), (.int .i64 0), (.int .i64 0), (.int .i64 0), (.int .i64 0), (.bool false), (.slice none 0 0), (.slice none 0 0), (.int .i64 0), (.int .i64 0), (.int .i64 0), (.int .i64 0), (.int .i64 0), (.int .i64 0), (.int .i64 0), (.int .i64 0), (.int .i64 0), (.bool false), (.int .i64 0), (.int .i64 0), (.int .i64 0), (.int .i64 0), (.slice none 0 0), (.int .i64 0), (.int .i64 0), (.int .i64 0), (.int .i64 0), (.int .i64 0), (.slice none 0 0), (.int .i64 0), (.int .i64 0), (.int .u64 0), (.int .i64 0), (.int .i64 0), (.bool false), (.bool false), (.bool false), (.slice none 0 0), (.int .i64 0), (.int .i64 0), (.int .i64 0), (.int .i64 0), (.int .u64 0), (.int .i64 0), (.bool false), (.int .i64 0), (.int .i64 0), (.int .i64 0), (.slice none 0 0), (.slice none 0 0), (.slice none 0 0), (.int .i64 0)])] w fun (v2 : Value) w3 =>
    TupP [] v2 fun (t4 : Unit) =>
     R (.bool false) w3)
   (nilCk x0 fun (a5 : Addr) =>
    RunQ .sl P (Instr.loadAt T_sl_int (.pointer (some ((a5.add 77).add 5)))) w fun (s6 : Sl) =>
     CallP P F_slices_Contains_int_int [s6.v, (.int .i64 x1)] w fun (v7 : Value) w8 =>
      TyP .bool v7 fun (b9 : Bool) =>
       ifB (!b9)
        (JoinP (T := Unit) (fun J10 =>
         nilCk x0 fun (a13 : Addr) =>
          RunQ (.int .i64) P (Instr.loadAt T_int (.pointer (some ((a13.add 77).add 4)))) w8 fun (n14 : Int) =>
           ifB (decide (n14 < 0))
            (∃ S15 : World → Prop, (S15 w8.drew) ∧
              nilCk x0 fun (a16 : Addr) =>
               HRun S15 (.int .i64) P (Instr.loadAt T_int (.pointer (some ((a16.add 77).add 2)))) fun (n17 : Int) =>
                nilCk x0 fun (a18 : Addr) =>
                HRun S15 (.int .i64) P (Instr.loadAt T_int (.pointer (some (a18.add 8)))) fun (n19 : Int) =>
                nilCk x0 fun (a20 : Addr) =>
                StoreP P T_int (.pointer (some ((a20.add 77).add 4))) (.int .i64 n17) w8.drew fun w21 =>
                (S15 w21) ∧
                nilCk x0 fun (a22 : Addr) =>
                StoreP P T_int (.pointer (some ((a22.add 77).add 3))) (.int .i64 n19) w21 fun w23 =>
                (S15 w23) ∧
                J10 (some ()) w23)
            (J10 (some ()) w8))
         fun t11 w12 =>
         ∃ S24 : World → Prop, (S24 w12.drew) ∧
           nilCk x0 fun (a25 : Addr) =>
            HRun S24 (.int .u64) P (Instr.loadAt T_uint64 (.pointer (some ((a25.add 77).add 1)))) fun (n26 : Int) =>
             nilCk x0 fun (a27 : Addr) =>
              HRun S24 (.int .i64) P (Instr.loadAt T_int (.pointer (some ((a27.add 77).add 2)))) fun (n28 : Int) =>
               CallP P F_client_Client_ask [(.pointer x0), (.agg #[(.int .i64 8), (.int .i64 0), (.int .i64 0), (.int .i64 0), (.int .i64 0), (.int .i64 0), (.int .i64 0), (.int .i64 0), (.int .i64 0), (.int .i64 0), (.int .i64 0), (.int .i64 0), (.bool false), (.slice none 0 0), (.slice none 0 0), (.int .i64 0), (.int .i64 0), (.int .i64 0), (.int .i64 0), (.int .i64 0), (.int .i64 0), (.int .i64 0), (.int .i64 0), (.int .i64 0), (.bool false), (.int .i64 0), (.int .i64 0), (.int .i64 0), (.int .i64 0), (.slice none 0 0), (.int .i64 0), (.int .i64 0), (.int .i64 0), (.int .i64 0), (.int .i64 0), (.slice none 0 0), (.int .i64 0), (.int .i64 0), (.int .u64 0), (.int .i64 0), (.int .i64 0), (.bool false), (.bool false), (.bool false), (.slice none 0 0), (.int .i64 0), (.int .i64 x1), (.int .i64 0), (.int .i64 0), (.int .u64 n26), (.int .i64 n28), (.bool false), (.int .i64 0), (.int .i64 0), (.int .i64 0), (.slice none 0 0), (.slice none 0 0), (.slice none 0 0), (.int .i64 0)])] w12.drew fun (v29 : Value) w30 =>
                TupP [] v29 fun (t31 : Unit) =>
                (S24 w30) ∧
                R (.bool false) w30)
        (R (.bool true) w8))
def an_client_Client_prepare : Ann := ⟨[(7, [])], [], []⟩
theorem e_client_Client_prepare (R : Value → World → Prop) (x0 : Option Addr) (x1 : Int) (w : World) : denF P an_client_Client_prepare Try.f78 [.pointer x0, .int .i64 x1] w R = S_client_Client_prepare R x0 x1 w := by kernel_rfl
theorem c_client_Client_prepare {R : Value → World → Prop} {x0 : Option Addr} {x1 : Int} {w : World} (h : S_client_Client_prepare R x0 x1 w) : CallP P F_client_Client_prepare [.pointer x0, .int .i64 x1] w R := calls_of_denF (an := an_client_Client_prepare) Try.func78 (by rw [e_client_Client_prepare]; exact h)

end Go.Proofs.Ytajhdjjmhfbhgaa
