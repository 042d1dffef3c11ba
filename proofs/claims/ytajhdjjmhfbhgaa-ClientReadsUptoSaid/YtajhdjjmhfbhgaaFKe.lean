/- The functions of the program as predicates over worlds, written by a program of mine (PkPrint); each is held against the code by the kernel. -/
import Derived.Test.YtajhdjjmhfbhgaaN
namespace Go.Proofs.Ytajhdjjmhfbhgaa
open Go Go.Pk
/-- penstock/penstocklaw19.ClientAsks -/
def S_law19_ClientAsks (R : Value → World → Prop) (x0 : Value) (x1 : Int) (x2 : Sl) (w : World) : Prop :=
 RunK .addr P (Instr.box T_api_Config x0) w fun (a0 : Addr) w1 =>
 CallP P F_law19_awake [] w1 fun (v2 : Value) w3 =>
  TyP .bool v2 fun (b4 : Bool) =>
   ifB (!b4)
    (R (.bool false) w3)
    (RunQ .val P (Instr.loadAt T_api_Config (.pointer (some a0))) w3 fun (v5 : Value) =>
     CallP P F_law19_begin [v5, (.int .u8 x1)] w3 fun (v6 : Value) w7 =>
      TyP .ptr v6 fun (p8 : Option Addr) =>
       ifB (Option.isNone p8)
        (R (.bool true) w7)
        (LoopP (T := Int × Unit) (some (0, ())) w7 fun next9 t10 w11 =>
         ifB (decide (t10.fst < (↑x2.len : Int)))
          (RunQ .addr P (Instr.indexAt T_sl_penstocklaw19_Op x2.v (.int .i64 t10.fst)) w11 fun (a12 : Addr) =>
           RunQ .val P (Instr.loadAt T_penstocklaw19_Op (.pointer (some a12))) w11 fun (v13 : Value) =>
            RunK .addr P (Instr.alloc T_penstocklaw19_Op true (.tuple #[])) w11 fun (a14 : Addr) w15 =>
             StoreP P T_penstocklaw19_Op (.pointer (some a14)) v13 w15 fun w16 =>
              RunQ .val P (Instr.loadAt T_penstocklaw19_Op (.pointer (some a14))) w16 fun (v17 : Value) =>
               CallP P F_law19_hold_play [(.pointer p8), v17] w16 fun (v18 : Value) w19 =>
                TyP .bool v18 fun (b20 : Bool) =>
                ifB (!b20)
                (R (.bool false) w19)
                (next9 (some ((IntKind.i64.wrap (t10.fst + 1)), ())) w19))
          (R (.bool true) w11)))
def an_law19_ClientAsks : Ann := ⟨[], [(7, [(19, (.int .i64))])], []⟩
theorem e_law19_ClientAsks (R : Value → World → Prop) (x0 : Value) (x1 : Int) (x2 : Sl) (w : World) : denF P an_law19_ClientAsks Try.f6 [x0, .int .u8 x1, x2.v] w R = S_law19_ClientAsks R x0 x1 x2 w := by kernel_rfl
theorem c_law19_ClientAsks {R : Value → World → Prop} {x0 : Value} {x1 : Int} {x2 : Sl} {w : World} (h : S_law19_ClientAsks R x0 x1 x2 w) : CallP P F_law19_ClientAsks [x0, .int .u8 x1, x2.v] w R := calls_of_denF (an := an_law19_ClientAsks) Try.func6 (by rw [e_law19_ClientAsks]; exact h)


/-- penstock/penstocklaw19.begin -/
def S_law19_begin (R : Value → World → Prop) (x0 : Value) (x1 : Int) (w : World) : Prop :=
 RunK .addr P (Instr.box T_api_Config x0) w fun (a0 : Addr) w1 =>
 JoinP (T := Unit) (fun J2 =>
  RunQ .val P (Instr.loadAt T_api_Config (.pointer (some a0))) w1 fun (v5 : Value) =>
   CallP P F_law19_bad [v5] w1 fun (v6 : Value) w7 =>
    TyP .bool v6 fun (b8 : Bool) =>
     ifB b8
      (R (.pointer none) w7)
      (RunQ .sl P (Instr.loadAt T_sl_api_Program (.pointer (some (Go.Addr.add a0 3)))) w7 fun (s9 : Sl) =>
       ifB ((↑s9.len : Int) == 0)
        (R (.pointer none) w7)
        (J2 (some ()) w7)))
  fun t3 w4 =>
  RunQ .sl P (Instr.loadAt T_sl_api_Program (.pointer (some (Go.Addr.add a0 3)))) w4 fun (s10 : Sl) =>
   RunK (.int .i64) P (do (eqGuard .rem T_int (.tmp 0) (.tmp 0) (.int .i64 (IntKind.i64.wrap x1)) (.int .i64 ((↑s10.len : Int)))); (binOp .rem T_int (.int .i64 (IntKind.i64.wrap x1)) (.int .i64 ((↑s10.len : Int))))) w4 fun (n11 : Int) w12 =>
    RunQ .val P (Instr.loadAt T_api_Config (.pointer (some a0))) w12 fun (v13 : Value) =>
     CallP P F_client_New [(.int .i64 n11), v13] w12 fun (v14 : Value) w15 =>
      TupP [.ptr, (.int .i64)] v14 fun (t16 : Option Addr × Int × Unit) =>
       JoinP (T := Unit) (fun J17 =>
        ifB (Option.isNone t16.fst)
         (R (.pointer none) w15)
         (ifB (t16.snd.fst != 0)
          (R (.pointer none) w15)
          (J17 (some ()) w15)))
        fun t18 w19 =>
        RunQ .val P (Instr.loadAt T_api_Config (.pointer (some a0))) w19 fun (v20 : Value) =>
         RunQ .val P (Instr.build T_penstocklaw19_hold #[(0, v20), (1, (.int .i64 n11)), (2, (.pointer t16.fst))]) w19 fun (v21 : Value) =>
          RunK .addr P (Instr.box T_penstocklaw19_hold v21) w19 fun (a22 : Addr) w23 =>
           R (.pointer (some a22)) w23
def an_law19_begin : Ann := ⟨[(7, []), (3, [])], [], []⟩
theorem e_law19_begin (R : Value → World → Prop) (x0 : Value) (x1 : Int) (w : World) : denF P an_law19_begin Try.f22 [x0, .int .u8 x1] w R = S_law19_begin R x0 x1 w := by kernel_rfl
theorem c_law19_begin {R : Value → World → Prop} {x0 : Value} {x1 : Int} {w : World} (h : S_law19_begin R x0 x1 w) : CallP P F_law19_begin [x0, .int .u8 x1] w R := calls_of_denF (an := an_law19_begin) Try.func22 (by rw [e_law19_begin]; exact h)


/-- (*penstock/penstocklaw19.hold).sends -/
def S_law19_hold_sends (R : Value → World → Prop) (x0 : Option Addr) (x1 : Sl) (w : World) : Prop :=
 JoinP (T := Unit) (fun J0 =>
 ifB (decide ((↑x1.len : Int) > 1))
  (R (.bool false) w)
  (nilCk x0 fun (a3 : Addr) =>
   RunQ .bool P (Instr.loadAt T_bool (.pointer (some (a3.add 69)))) w fun (b4 : Bool) =>
    ifB b4
     (ifB (decide ((↑x1.len : Int) > 0))
      (R (.bool false) w)
      (J0 (some ()) w))
     (J0 (some ()) w)))
 fun t1 w2 =>
 LoopP (T := Int × Unit) (some (0, ())) w2 fun next5 t6 w7 =>
  ifB (decide (t6.fst < (↑x1.len : Int)))
   (RunQ .addr P (Instr.indexAt T_sl_api_Msg x1.v (.int .i64 t6.fst)) w7 fun (a8 : Addr) =>
    RunQ .val P (Instr.loadAt T_api_Msg (.pointer (some a8))) w7 fun (v9 : Value) =>
     RunK .addr P (Instr.alloc T_api_Msg true (.tuple #[])) w7 fun (a10 : Addr) w11 =>
      StoreP P T_api_Msg (.pointer (some a10)) v9 w11 fun w12 =>
       JoinP (T := Bool × Unit) (fun J13 =>
        RunQ (.int .i64) P (Instr.loadAt T_int (.pointer (some (Go.Addr.add a10 0)))) w12 fun (n16 : Int) =>
         ifB (n16 == 7)
          (J13 (some (true, ())) w12)
          (RunQ (.int .i64) P (Instr.loadAt T_int (.pointer (some (Go.Addr.add a10 0)))) w12 fun (n17 : Int) =>
           ifB (n17 == 8)
            (J13 (some (true, ())) w12)
            (RunQ (.int .i64) P (Instr.loadAt T_int (.pointer (some (Go.Addr.add a10 0)))) w12 fun (n18 : Int) =>
             ifB (n18 == 5)
              (J13 (some (true, ())) w12)
              (RunQ (.int .i64) P (Instr.loadAt T_int (.pointer (some (Go.Addr.add a10 0)))) w12 fun (n19 : Int) =>
               ifB (n19 == 9)
                (J13 (some (true, ())) w12)
                (RunQ (.int .i64) P (Instr.loadAt T_int (.pointer (some (Go.Addr.add a10 0)))) w12 fun (n20 : Int) =>
                ifB (n20 == 11)
                (J13 (some (true, ())) w12)
                (RunQ (.int .i64) P (Instr.loadAt T_int (.pointer (some (Go.Addr.add a10 0)))) w12 fun (n21 : Int) =>
                ifB (n21 == 14)
                (J13 (some (true, ())) w12)
                (RunQ (.int .i64) P (Instr.loadAt T_int (.pointer (some (Go.Addr.add a10 0)))) w12 fun (n22 : Int) =>
                ifB (n22 == 6)
                (J13 (some (true, ())) w12)
                (RunQ (.int .i64) P (Instr.loadAt T_int (.pointer (some (Go.Addr.add a10 0)))) w12 fun (n23 : Int) =>
                ifB (n23 == 12)
                (J13 (some (true, ())) w12)
                (RunQ (.int .i64) P (Instr.loadAt T_int (.pointer (some (Go.Addr.add a10 0)))) w12 fun (n24 : Int) =>
                J13 (some ((n24 == 13), ())) w12)))))))))
        fun t14 w15 =>
        nilCk x0 fun (a25 : Addr) =>
         RunQ .ptr P (Instr.loadAt T_p_client_Client (.pointer (some (a25.add 5)))) w15 fun (p26 : Option Addr) =>
          CallP P F_client_Client_State [(.pointer p26)] w15 fun (v27 : Value) w28 =>
           TupP [(.int .i64), (.int .i64), .bool] v27 fun (t29 : Int × Int × Bool × Unit) =>
            JoinP (T := Unit) (fun J30 =>
             ifB (!t14.fst)
              (R (.bool false) w28.drew)
              (RunQ (.int .i64) P (Instr.loadAt T_int (.pointer (some (Go.Addr.add a10 1)))) w28.drew fun (n33 : Int) =>
               nilCk x0 fun (a34 : Addr) =>
                RunQ (.int .i64) P (Instr.loadAt T_int (.pointer (some ((a34.add 0).add 0)))) w28.drew fun (n35 : Int) =>
                nilCk x0 fun (a36 : Addr) =>
                RunQ (.int .i64) P (Instr.loadAt T_int (.pointer (some (a36.add 4)))) w28.drew fun (n37 : Int) =>
                ifB (n33 != IntKind.i64.wrap (n35 + n37))
                (R (.bool false) w28.drew)
                (RunQ (.int .i64) P (Instr.loadAt T_int (.pointer (some (Go.Addr.add a10 2)))) w28.drew fun (n38 : Int) =>
                ifB (decide (n38 < 0))
                (R (.bool false) w28.drew)
                (RunQ (.int .i64) P (Instr.loadAt T_int (.pointer (some (Go.Addr.add a10 2)))) w28.drew fun (n39 : Int) =>
                nilCk x0 fun (a40 : Addr) =>
                RunQ (.int .i64) P (Instr.loadAt T_int (.pointer (some ((a40.add 0).add 0)))) w28.drew fun (n41 : Int) =>
                ifB (decide (n39 ≥ n41))
                (R (.bool false) w28.drew)
                (RunQ (.int .i64) P (Instr.loadAt T_int (.pointer (some (Go.Addr.add a10 47)))) w28.drew fun (n42 : Int) =>
                nilCk x0 fun (a43 : Addr) =>
                RunQ (.int .i64) P (Instr.loadAt T_int (.pointer (some (a43.add 4)))) w28.drew fun (n44 : Int) =>
                ifB (n42 != n44)
                (R (.bool false) w28.drew)
                (RunQ (.int .i64) P (Instr.loadAt T_int (.pointer (some (Go.Addr.add a10 54)))) w28.drew fun (n45 : Int) =>
                nilCk x0 fun (a46 : Addr) =>
                RunQ (.int .i64) P (Instr.loadAt T_int (.pointer (some (a46.add 4)))) w28.drew fun (n47 : Int) =>
                ifB (n45 != n47)
                (R (.bool false) w28.drew)
                (RunQ (.int .i64) P (Instr.loadAt T_int (.pointer (some (Go.Addr.add a10 48)))) w28.drew fun (n48 : Int) =>
                ifB (n48 != t29.snd.fst)
                (R (.bool false) w28.drew)
                (RunQ (.int .i64) P (Instr.loadAt T_int (.pointer (some (Go.Addr.add a10 52)))) w28.drew fun (n49 : Int) =>
                nilCk x0 fun (a50 : Addr) =>
                RunQ .sl P (Instr.loadAt T_sl_api_Program (.pointer (some ((a50.add 0).add 3)))) w28.drew fun (s51 : Sl) =>
                nilCk x0 fun (a52 : Addr) =>
                RunQ (.int .i64) P (Instr.loadAt T_int (.pointer (some (a52.add 4)))) w28.drew fun (n53 : Int) =>
                RunQ .addr P (Instr.indexAt T_sl_api_Program s51.v (.int .i64 n53)) w28.drew fun (a54 : Addr) =>
                RunQ (.int .i64) P (Instr.loadAt T_int (.pointer (some (Go.Addr.add a54 0)))) w28.drew fun (n55 : Int) =>
                ifB (n49 != n55)
                (R (.bool false) w28.drew)
                (J30 (some ()) w28.drew)))))))))
             fun t31 w32 =>
             RunQ .val P (Instr.loadAt T_api_Msg (.pointer (some a10))) w32 fun (v56 : Value) =>
              nilCk x0 fun (a57 : Addr) =>
               StoreP P T_api_Msg (.pointer (some (a57.add 6))) v56 w32 fun w58 =>
                nilCk x0 fun (a59 : Addr) =>
                StoreP P T_bool (.pointer (some (a59.add 65))) (.bool true) w58 fun w60 =>
                next5 (some ((IntKind.i64.wrap (t6.fst + 1)), ())) w60)
   (R (.bool true) w7)
def an_law19_hold_sends : Ann := ⟨[(10, []), (7, [(7, .bool)]), (3, [])], [(4, [(27, (.int .i64))])], []⟩
theorem e_law19_hold_sends (R : Value → World → Prop) (x0 : Option Addr) (x1 : Sl) (w : World) : denF P an_law19_hold_sends Try.f23 [.pointer x0, x1.v] w R = S_law19_hold_sends R x0 x1 w := by kernel_rfl
theorem c_law19_hold_sends {R : Value → World → Prop} {x0 : Option Addr} {x1 : Sl} {w : World} (h : S_law19_hold_sends R x0 x1 w) : CallP P F_law19_hold_sends [.pointer x0, x1.v] w R := calls_of_denF (an := an_law19_hold_sends) Try.func23 (by rw [e_law19_hold_sends]; exact h)


/-- (*penstock/penstocklaw19.hold).looks -/
def S_law19_hold_looks (R : Value → World → Prop) (x0 : Option Addr) (w : World) : Prop :=
 nilCk x0 fun (a0 : Addr) =>
 RunQ .ptr P (Instr.loadAt T_p_client_Client (.pointer (some (a0.add 5)))) w fun (p1 : Option Addr) =>
  CallP P F_client_Client_Trace [(.pointer p1)] w fun (v2 : Value) w3 =>
   TyP .sl v2 fun (s4 : Sl) =>
    nilCk x0 fun (a5 : Addr) =>
     RunQ .ptr P (Instr.loadAt T_p_client_Client (.pointer (some (a5.add 5)))) w3 fun (p6 : Option Addr) =>
      CallP P F_client_Client_State [(.pointer p6)] w3 fun (v7 : Value) w8 =>
       TupP [(.int .i64), (.int .i64), .bool] v7 fun (t9 : Int × Int × Bool × Unit) =>
        JoinP (T := Unit) (fun J10 =>
         nilCk x0 fun (a13 : Addr) =>
          RunQ (.int .i64) P (Instr.loadAt T_int (.pointer (some (a13.add 66)))) w8.drew fun (n14 : Int) =>
           ifB (decide ((↑s4.len : Int) < n14))
            (R (.bool false) w8.drew)
            (ifB (decide (t9.fst < 0))
             (R (.bool false) w8.drew)
             (nilCk x0 fun (a15 : Addr) =>
              RunQ .sl P (Instr.loadAt T_sl_api_Program (.pointer (some ((a15.add 0).add 3)))) w8.drew fun (s16 : Sl) =>
               nilCk x0 fun (a17 : Addr) =>
                RunQ (.int .i64) P (Instr.loadAt T_int (.pointer (some (a17.add 4)))) w8.drew fun (n18 : Int) =>
                RunQ .addr P (Instr.indexAt T_sl_api_Program s16.v (.int .i64 n18)) w8.drew fun (a19 : Addr) =>
                RunQ .sl P (Instr.loadAt T_sl_api_Op (.pointer (some (Go.Addr.add a19 1)))) w8.drew fun (s20 : Sl) =>
                ifB (decide (t9.fst > (↑s20.len : Int)))
                (R (.bool false) w8.drew)
                (J10 (some ()) w8.drew))))
         fun t11 w12 =>
         nilCk x0 fun (a21 : Addr) =>
          RunQ (.int .i64) P (Instr.loadAt T_int (.pointer (some (a21.add 66)))) w12 fun (n22 : Int) =>
           RunQ .sl P (Instr.sliceAt T_sl_api_Seen s4.v (some (.int .i64 n22)) none none) w12 fun (s23 : Sl) =>
            LoopP (T := Int × Unit) (some (0, ())) w12 fun next24 t25 w26 =>
             ifB (decide (t25.fst < (↑s23.len : Int)))
              (RunQ .addr P (Instr.indexAt T_sl_api_Seen s23.v (.int .i64 t25.fst)) w26 fun (a27 : Addr) =>
               RunQ .val P (Instr.loadAt T_api_Seen (.pointer (some a27))) w26 fun (v28 : Value) =>
                RunK .addr P (Instr.alloc T_api_Seen true (.tuple #[])) w26 fun (a29 : Addr) w30 =>
                StoreP P T_api_Seen (.pointer (some a29)) v28 w30 fun w31 =>
                JoinP (T := Unit) (fun J32 =>
                nilCk x0 fun (a35 : Addr) =>
                RunQ .bool P (Instr.loadAt T_bool (.pointer (some (a35.add 69)))) w31.drew fun (b36 : Bool) =>
                ifB b36
                (R (.bool false) w31.drew)
                (RunQ (.int .i64) P (Instr.loadAt T_int (.pointer (some (Go.Addr.add a29 1)))) w31.drew fun (n37 : Int) =>
                nilCk x0 fun (a38 : Addr) =>
                RunQ (.int .i64) P (Instr.loadAt T_int (.pointer (some (a38.add 4)))) w31.drew fun (n39 : Int) =>
                ifB (n37 != n39)
                (R (.bool false) w31.drew)
                (RunQ (.int .i64) P (Instr.loadAt T_int (.pointer (some (Go.Addr.add a29 2)))) w31.drew fun (n40 : Int) =>
                ifB (decide (n40 < 0))
                (R (.bool false) w31.drew)
                (RunQ (.int .i64) P (Instr.loadAt T_int (.pointer (some (Go.Addr.add a29 2)))) w31.drew fun (n41 : Int) =>
                nilCk x0 fun (a42 : Addr) =>
                RunQ .sl P (Instr.loadAt T_sl_api_Program (.pointer (some ((a42.add 0).add 3)))) w31.drew fun (s43 : Sl) =>
                nilCk x0 fun (a44 : Addr) =>
                RunQ (.int .i64) P (Instr.loadAt T_int (.pointer (some (a44.add 4)))) w31.drew fun (n45 : Int) =>
                RunQ .addr P (Instr.indexAt T_sl_api_Program s43.v (.int .i64 n45)) w31.drew fun (a46 : Addr) =>
                RunQ .sl P (Instr.loadAt T_sl_api_Op (.pointer (some (Go.Addr.add a46 1)))) w31.drew fun (s47 : Sl) =>
                ifB (decide (n41 > (↑s47.len : Int)))
                (R (.bool false) w31.drew)
                (RunQ (.int .i64) P (Instr.loadAt T_int (.pointer (some (Go.Addr.add a29 2)))) w31.drew fun (n48 : Int) =>
                nilCk x0 fun (a49 : Addr) =>
                RunQ (.int .i64) P (Instr.loadAt T_int (.pointer (some (a49.add 67)))) w31.drew fun (n50 : Int) =>
                ifB (decide (n48 < n50))
                (RunQ (.int .i64) P (Instr.loadAt T_int (.pointer (some (Go.Addr.add a29 0)))) w31.drew fun (n51 : Int) =>
                ifB (n51 != 4)
                (R (.bool false) w31.drew)
                (J32 (some ()) w31.drew))
                (J32 (some ()) w31.drew))))))
                fun t33 w34 =>
                JoinP (T := Unit) (fun J52 =>
                RunQ (.int .i64) P (Instr.loadAt T_int (.pointer (some (Go.Addr.add a29 0)))) w34 fun (n55 : Int) =>
                ifB (n55 == 4)
                (nilCk x0 fun (a56 : Addr) =>
                StoreP P T_int (.pointer (some (a56.add 67))) (.int .i64 0) w34 fun w57 =>
                J52 (some ()) w57)
                (RunQ (.int .i64) P (Instr.loadAt T_int (.pointer (some (Go.Addr.add a29 2)))) w34 fun (n58 : Int) =>
                nilCk x0 fun (a59 : Addr) =>
                StoreP P T_int (.pointer (some (a59.add 67))) (.int .i64 n58) w34 fun w60 =>
                J52 (some ()) w60))
                fun t53 w54 =>
                RunQ (.int .i64) P (Instr.loadAt T_int (.pointer (some (Go.Addr.add a29 0)))) w54 fun (n61 : Int) =>
                nilCk x0 fun (a62 : Addr) =>
                StoreP P T_bool (.pointer (some (a62.add 69))) (.bool (n61 == 7)) w54 fun w63 =>
                next24 (some ((IntKind.i64.wrap (t25.fst + 1)), ())) w63)
              (nilCk x0 fun (a64 : Addr) =>
               StoreP P T_int (.pointer (some (a64.add 66))) (.int .i64 ((↑s4.len : Int))) w26 fun w65 =>
                nilCk x0 fun (a66 : Addr) =>
                RunQ .bool P (Instr.loadAt T_bool (.pointer (some (a66.add 69)))) w65 fun (b67 : Bool) =>
                R (.bool (t9.snd.snd.fst == b67)) w65)
def an_law19_hold_looks : Ann := ⟨[(13, []), (10, []), (5, [])], [(6, [(58, (.int .i64))])], []⟩
theorem e_law19_hold_looks (R : Value → World → Prop) (x0 : Option Addr) (w : World) : denF P an_law19_hold_looks Try.f24 [.pointer x0] w R = S_law19_hold_looks R x0 w := by kernel_rfl
theorem c_law19_hold_looks {R : Value → World → Prop} {x0 : Option Addr} {w : World} (h : S_law19_hold_looks R x0 w) : CallP P F_law19_hold_looks [.pointer x0] w R := calls_of_denF (an := an_law19_hold_looks) Try.func24 (by rw [e_law19_hold_looks]; exact h)


/-- (*penstock/penstocklaw19.hold).play -/
def S_law19_hold_play (R : Value → World → Prop) (x0 : Option Addr) (x1 : Value) (w : World) : Prop :=
 RunK .addr P (Instr.box T_penstocklaw19_Op x1) w fun (a0 : Addr) w1 =>
 JoinP (T := Sl × Unit) (fun J2 =>
  RunQ (.int .i64) P (Instr.loadAt T_int (.pointer (some (Go.Addr.add a0 0)))) w1 fun (n5 : Int) =>
   ifB (n5 == 0)
    (nilCk x0 fun (a6 : Addr) =>
     RunQ .ptr P (Instr.loadAt T_p_client_Client (.pointer (some (a6.add 5)))) w1 fun (p7 : Option Addr) =>
      CallP P F_client_Client_Tick [(.pointer p7)] w1 fun (v8 : Value) w9 =>
       TyP .sl v8 fun (s10 : Sl) =>
        J2 (some (s10, ())) w9)
    (ifB (n5 == 1)
     (RunQ .val P (Instr.loadAt T_api_Msg (.pointer (some (Go.Addr.add a0 2)))) w1 fun (v11 : Value) =>
      RunK .addr P (Instr.alloc T_api_Msg true (.tuple #[])) w1 fun (a12 : Addr) w13 =>
       StoreP P T_api_Msg (.pointer (some a12)) v11 w13 fun w14 =>
        StoreP P T_int (.pointer (some (Go.Addr.add a12 0))) (.int .i64 15) w14 fun w15 =>
         JoinP (T := Unit) (fun J16 =>
          RunQ .bool P (Instr.loadAt T_bool (.pointer (some (Go.Addr.add a0 1)))) w15 fun (b19 : Bool) =>
           ifB b19
            (nilCk x0 fun (a20 : Addr) =>
             RunQ .bool P (Instr.loadAt T_bool (.pointer (some (a20.add 65)))) w15 fun (b21 : Bool) =>
              ifB b21
               (nilCk x0 fun (a22 : Addr) =>
                RunQ (.int .i64) P (Instr.loadAt T_int (.pointer (some ((a22.add 6).add 3)))) w15 fun (n23 : Int) =>
                StoreP P T_int (.pointer (some (Go.Addr.add a12 3))) (.int .i64 n23) w15 fun w24 =>
                nilCk x0 fun (a25 : Addr) =>
                RunQ (.int .i64) P (Instr.loadAt T_int (.pointer (some ((a25.add 6).add 48)))) w24 fun (n26 : Int) =>
                StoreP P T_int (.pointer (some (Go.Addr.add a12 48))) (.int .i64 n26) w24 fun w27 =>
                nilCk x0 fun (a28 : Addr) =>
                RunQ (.int .i64) P (Instr.loadAt T_int (.pointer (some ((a28.add 6).add 47)))) w27 fun (n29 : Int) =>
                StoreP P T_int (.pointer (some (Go.Addr.add a12 47))) (.int .i64 n29) w27 fun w30 =>
                J16 (some ()) w30)
               (J16 (some ()) w15))
            (J16 (some ()) w15))
          fun t17 w18 =>
          ∃ S31 : World → Prop, (S31 w18.drew) ∧
            nilCk x0 fun (a32 : Addr) =>
             HRun S31 .ptr P (Instr.loadAt T_p_client_Client (.pointer (some (a32.add 5)))) fun (p33 : Option Addr) =>
              HRun S31 .val P (Instr.loadAt T_api_Msg (.pointer (some a12))) fun (v34 : Value) =>
               CallP P F_client_Client_Handle [(.pointer p33), v34] w18.drew fun (v35 : Value) w36 =>
                TyP .sl v35 fun (s37 : Sl) =>
                (S31 w36) ∧
                J2 (some (s37, ())) w36)
     (nilCk x0 fun (a38 : Addr) =>
      RunQ .ptr P (Instr.loadAt T_p_client_Client (.pointer (some (a38.add 5)))) w1 fun (p39 : Option Addr) =>
       CallP P F_client_Client_Again [(.pointer p39)] w1 fun (v40 : Value) w41 =>
        TupP [] v40 fun (t42 : Unit) =>
         J2 (some (⟨none, 0, 0⟩, ())) w41)))
  fun t3 w4 =>
  CallP P F_law19_hold_sends [(.pointer x0), t3.fst.v] w4 fun (v43 : Value) w44 =>
   TyP .bool v43 fun (b45 : Bool) =>
    ifB b45
     (CallP P F_law19_hold_looks [(.pointer x0)] w44 fun (v46 : Value) w47 =>
      TyP .bool v46 fun (b48 : Bool) =>
       R (.bool b48) w47)
     (R (.bool false) w44)
def an_law19_hold_play : Ann := ⟨[(13, []), (14, [(5, .sl)])], [], []⟩
theorem e_law19_hold_play (R : Value → World → Prop) (x0 : Option Addr) (x1 : Value) (w : World) : denF P an_law19_hold_play Try.f27 [.pointer x0, x1] w R = S_law19_hold_play R x0 x1 w := by kernel_rfl
theorem c_law19_hold_play {R : Value → World → Prop} {x0 : Option Addr} {x1 : Value} {w : World} (h : S_law19_hold_play R x0 x1 w) : CallP P F_law19_hold_play [.pointer x0, x1] w R := calls_of_denF (an := an_law19_hold_play) Try.func27 (by rw [e_law19_hold_play]; exact h)

end Go.Proofs.Ytajhdjjmhfbhgaa
