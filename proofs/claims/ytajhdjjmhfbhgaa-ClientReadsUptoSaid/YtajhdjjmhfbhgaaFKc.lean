/- The functions of the program as predicates over worlds, written by a program of mine (PkPrint); each is held against the code by the kernel. -/
import Derived.Test.YtajhdjjmhfbhgaaN
namespace Go.Proofs.Ytajhdjjmhfbhgaa
open Go Go.Pk
/-- (*penstock/client.Client).Handle -/
def S_client_Client_Handle (R : Value → World → Prop) (x0 : Option Addr) (x1 : Value) (w : World) : Prop :=
 RunK .addr P (Instr.box T_api_Msg x1) w fun (a0 : Addr) w1 =>
 JoinP (T := Unit) (fun J2 =>
  ifB (Option.isNone x0)
   (R (.slice none 0 0) w1.drew)
   (nilCk x0 fun (a5 : Addr) =>
    RunQ .bool P (Instr.loadAt T_bool (.pointer (some (a5.add 72)))) w1.drew fun (b6 : Bool) =>
     ifB (!b6)
      (R (.slice none 0 0) w1.drew)
      (RunQ (.int .i64) P (Instr.loadAt T_int (.pointer (some (Go.Addr.add a0 0)))) w1.drew fun (n7 : Int) =>
       ifB (n7 != 15)
        (R (.slice none 0 0) w1.drew)
        (RunQ (.int .i64) P (Instr.loadAt T_int (.pointer (some (Go.Addr.add a0 3)))) w1.drew fun (n8 : Int) =>
         nilCk x0 fun (a9 : Addr) =>
          RunQ (.int .i64) P (Instr.loadAt T_int (.pointer (some ((a9.add 13).add 3)))) w1.drew fun (n10 : Int) =>
           ifB (n8 != n10)
            (R (.slice none 0 0) w1.drew)
            (RunQ (.int .i64) P (Instr.loadAt T_int (.pointer (some (Go.Addr.add a0 48)))) w1.drew fun (n11 : Int) =>
             nilCk x0 fun (a12 : Addr) =>
              RunQ (.int .i64) P (Instr.loadAt T_int (.pointer (some (a12.add 10)))) w1.drew fun (n13 : Int) =>
               ifB (n11 != n13)
                (R (.slice none 0 0) w1.drew)
                (J2 (some ()) w1.drew))))))
  fun t3 w4 =>
  JoinP (T := Unit) (fun J14 =>
   RunQ (.int .i64) P (Instr.loadAt T_api_Errno (.pointer (some (Go.Addr.add a0 4)))) w4 fun (n17 : Int) =>
    ifB (n17 == 12)
     (nilCk x0 fun (a18 : Addr) =>
      StoreP P T_int (.pointer (some (a18.add 73))) (.int .i64 5) w4 fun w19 =>
       R (.slice none 0 0) w19)
     (ifB (n17 == 16)
      (nilCk x0 fun (a20 : Addr) =>
       StoreP P T_int (.pointer (some (a20.add 73))) (.int .i64 4) w4 fun w21 =>
        nilCk x0 fun (a22 : Addr) =>
         StoreP P T_bool (.pointer (some (a22.add 74))) (.bool true) w21 fun w23 =>
          R (.slice none 0 0) w23)
      (ifB (n17 == 1)
       (nilCk x0 fun (a24 : Addr) =>
        StoreP P T_int (.pointer (some (a24.add 73))) (.int .i64 4) w4 fun w25 =>
         nilCk x0 fun (a26 : Addr) =>
          StoreP P T_bool (.pointer (some (a26.add 74))) (.bool true) w25 fun w27 =>
           R (.slice none 0 0) w27)
       (ifB (n17 == 5)
        (nilCk x0 fun (a28 : Addr) =>
         StoreP P T_int (.pointer (some (a28.add 73))) (.int .i64 4) w4 fun w29 =>
          nilCk x0 fun (a30 : Addr) =>
           StoreP P T_bool (.pointer (some (a30.add 74))) (.bool true) w29 fun w31 =>
            R (.slice none 0 0) w31)
        (ifB (n17 == 4)
         (nilCk x0 fun (a32 : Addr) =>
          StoreP P T_int (.pointer (some (a32.add 73))) (.int .i64 4) w4 fun w33 =>
           nilCk x0 fun (a34 : Addr) =>
            StoreP P T_bool (.pointer (some (a34.add 74))) (.bool true) w33 fun w35 =>
             R (.slice none 0 0) w35)
         (ifB (n17 == 9)
          (nilCk x0 fun (a36 : Addr) =>
           StoreP P T_int (.pointer (some (a36.add 73))) (.int .i64 4) w4 fun w37 =>
            nilCk x0 fun (a38 : Addr) =>
             StoreP P T_bool (.pointer (some (a38.add 74))) (.bool true) w37 fun w39 =>
              R (.slice none 0 0) w39)
          (ifB (n17 == 3)
           (nilCk x0 fun (a40 : Addr) =>
            StoreP P T_int (.pointer (some (a40.add 73))) (.int .i64 4) w4 fun w41 =>
             nilCk x0 fun (a42 : Addr) =>
              StoreP P T_bool (.pointer (some (a42.add 74))) (.bool true) w41 fun w43 =>
               R (.slice none 0 0) w43)
           (J14 (some ()) w4))))))))
   fun t15 w16 =>
   nilCk x0 fun (a44 : Addr) =>
    StoreP P T_bool (.pointer (some (a44.add 72))) (.bool false) w16 fun w45 =>
     JoinP (T := Unit) (fun J46 =>
      RunQ (.int .i64) P (Instr.loadAt T_api_Errno (.pointer (some (Go.Addr.add a0 4)))) w45 fun (n49 : Int) =>
       ifB (n49 == 0)
        (RunQ .val P (Instr.loadAt T_api_Msg (.pointer (some a0))) w45 fun (v50 : Value) =>
         CallP P F_client_Client_answered [(.pointer x0), v50] w45 fun (v51 : Value) w52 =>
          TupP [] v51 fun (t53 : Unit) =>
           J46 (some ()) w52)
        (RunQ (.int .i64) P (Instr.loadAt T_api_Errno (.pointer (some (Go.Addr.add a0 4)))) w45 fun (n54 : Int) =>
         CallP P F_client_Client_refused [(.pointer x0), (.int .i64 n54)] w45 fun (v55 : Value) w56 =>
          TupP [] v55 fun (t57 : Unit) =>
           J46 (some ()) w56))
      fun t47 w48 =>
      LoopP (T := Int × Unit) (some (0, ())) w48 fun next58 t59 w60 =>
       ifB (decide (t59.fst < 8))
        (nilCk x0 fun (a61 : Addr) =>
         RunQ .bool P (Instr.loadAt T_bool (.pointer (some (a61.add 72)))) w60 fun (b62 : Bool) =>
          ifB b62
           (CallP P F_client_Client_take [(.pointer x0)] w60 fun (v63 : Value) w64 =>
            TyP .sl v63 fun (s65 : Sl) =>
             R s65.v w64)
           (nilCk x0 fun (a66 : Addr) =>
            RunQ .bool P (Instr.loadAt T_bool (.pointer (some (a66.add 9)))) w60 fun (b67 : Bool) =>
             ifB b67
              (CallP P F_client_Client_take [(.pointer x0)] w60 fun (v68 : Value) w69 =>
               TyP .sl v68 fun (s70 : Sl) =>
                R s70.v w69)
              (CallP P F_client_Client_decide [(.pointer x0)] w60 fun (v71 : Value) w72 =>
               TupP [] v71 fun (t73 : Unit) =>
                next58 (some ((IntKind.i64.wrap (t59.fst + 1)), ())) w72)))
        (CallP P F_client_Client_take [(.pointer x0)] w60 fun (v74 : Value) w75 =>
         TyP .sl v74 fun (s76 : Sl) =>
          R s76.v w75)
def an_client_Client_Handle : Ann := ⟨[(19, []), (15, []), (3, [])], [(20, [(71, (.int .i64))])], []⟩
theorem e_client_Client_Handle (R : Value → World → Prop) (x0 : Option Addr) (x1 : Value) (w : World) : denF P an_client_Client_Handle Try.f26 [.pointer x0, x1] w R = S_client_Client_Handle R x0 x1 w := by kernel_rfl
theorem c_client_Client_Handle {R : Value → World → Prop} {x0 : Option Addr} {x1 : Value} {w : World} (h : S_client_Client_Handle R x0 x1 w) : CallP P F_client_Client_Handle [.pointer x0, x1] w R := calls_of_denF (an := an_client_Client_Handle) Try.func26 (by rw [e_client_Client_Handle]; exact h)


/-- (*penstock/client.Client).answered -/
def S_client_Client_answered (R : Value → World → Prop) (x0 : Option Addr) (x1 : Value) (w : World) : Prop :=
 RunK .addr P (Instr.box T_api_Msg x1) w fun (a0 : Addr) w1 =>
 nilCk x0 fun (a2 : Addr) =>
  RunQ (.int .i64) P (Instr.loadAt T_int (.pointer (some ((a2.add 13).add 0)))) w1 fun (n3 : Int) =>
   ifB (n3 == 7)
    (RunQ .val P (Instr.loadAt T_api_Msg (.pointer (some a0))) w1 fun (v4 : Value) =>
     CallP P F_client_Client_given [(.pointer x0), v4] w1 fun (v5 : Value) w6 =>
      TupP [] v5 fun (t7 : Unit) =>
       R (.tuple #[]) w6)
    (ifB (n3 == 8)
     (∃ S8 : World → Prop, (S8 w1.drew) ∧
       nilCk x0 fun (a9 : Addr) =>
        nilCk x0 fun (a10 : Addr) =>
         HRun S8 (.int .i64) P (Instr.loadAt T_int (.pointer (some ((a10.add 13).add 46)))) fun (n11 : Int) =>
          (RunQ .sl P (Instr.loadAt T_sl_int (.pointer (some ((a9.add 77).add 5)))) w1.drew fun (s12 : Sl) =>
            (S8 w1.drew) ∧
             RunK .sl P (Instr.buildSlice T_sl_int 1 #[(0, (.int .i64 n11))]) w1.drew fun (s13 : Sl) w14 =>
              (S8 w14) ∧
               RunK .sl P (Builtin.append_ #[T_sl_int, T_sl_int] T_sl_int #[s12.v, s13.v]) w14 fun (s15 : Sl) w16 =>
                (S8 w16) ∧
                nilCk x0 fun (a17 : Addr) =>
                StoreP P T_sl_int (.pointer (some ((a17.add 77).add 5))) s15.v w16 fun w18 =>
                (S8 w18) ∧
                R (.tuple #[]) w18) ∧
           (RunK .sl P (Instr.buildSlice T_sl_int 1 #[(0, (.int .i64 n11))]) w1.drew fun (s19 : Sl) w20 =>
             (S8 w20) ∧
              RunQ .sl P (Instr.loadAt T_sl_int (.pointer (some ((a9.add 77).add 5)))) w20 fun (s21 : Sl) =>
               (S8 w20) ∧
                RunK .sl P (Builtin.append_ #[T_sl_int, T_sl_int] T_sl_int #[s21.v, s19.v]) w20 fun (s22 : Sl) w23 =>
                (S8 w23) ∧
                nilCk x0 fun (a24 : Addr) =>
                StoreP P T_sl_int (.pointer (some ((a24.add 77).add 5))) s22.v w23 fun w25 =>
                (S8 w25) ∧
                R (.tuple #[]) w25) ∧
            True)
     (ifB (n3 == 5)
      (RunQ .val P (Instr.loadAt T_api_Msg (.pointer (some a0))) w1 fun (v26 : Value) =>
       CallP P F_client_Client_sent [(.pointer x0), v26] w1 fun (v27 : Value) w28 =>
        TupP [] v27 fun (t29 : Unit) =>
         R (.tuple #[]) w28)
      (ifB (n3 == 9)
       (RunQ (.int .i64) P (Instr.loadAt T_int (.pointer (some (Go.Addr.add a0 50)))) w1 fun (n30 : Int) =>
        nilCk x0 fun (a31 : Addr) =>
         StoreP P T_int (.pointer (some ((a31.add 77).add 2))) (.int .i64 n30) w1 fun w32 =>
          nilCk x0 fun (a33 : Addr) =>
           RunQ .bool P (Instr.loadAt T_bool (.pointer (some ((a33.add 13).add 51)))) w32 fun (b34 : Bool) =>
            CallP P F_client_Client_ended [(.pointer x0), (.bool b34)] w32 fun (v35 : Value) w36 =>
             TupP [] v35 fun (t37 : Unit) =>
              R (.tuple #[]) w36)
       (ifB (n3 == 13)
        (∃ S38 : World → Prop, (S38 w1.drew) ∧
          nilCk x0 fun (a39 : Addr) =>
           HRun S38 .sl P (Instr.loadAt T_sl_int (.pointer (some ((a39.add 77).add 6)))) fun (s40 : Sl) =>
            nilCk x0 fun (a41 : Addr) =>
             HRun S38 (.int .i64) P (Instr.loadAt T_int (.pointer (some ((a41.add 2).add 1)))) fun (n42 : Int) =>
              HRun S38 .addr P (Instr.indexAt T_sl_int s40.v (.int .i64 (IntKind.i64.wrap (n42 + 1)))) fun (a43 : Addr) =>
               RunQ (.int .i64) P (Instr.loadAt T_int (.pointer (some a43))) w1.drew fun (n44 : Int) =>
                (S38 w1.drew) ∧
                HRun S38 .addr P (Instr.indexAt T_sl_int s40.v (.int .i64 (IntKind.i64.wrap (n42 + 1)))) fun (a45 : Addr) =>
                StoreP P T_int (.pointer (some a45)) (.int .i64 (IntKind.i64.wrap (n44 + 1))) w1.drew fun w46 =>
                (S38 w46) ∧
                nilCk x0 fun (a47 : Addr) =>
                StoreP P T_int (.pointer (some ((a47.add 84).add 10))) (.int .i64 3) w46 fun w48 =>
                R (.tuple #[]) w48)
        (RunQ .val P (Instr.loadAt T_api_Msg (.pointer (some a0))) w1 fun (v49 : Value) =>
         CallP P F_client_Client_placed [(.pointer x0), v49] w1 fun (v50 : Value) w51 =>
          TupP [] v50 fun (t52 : Unit) =>
           R (.tuple #[]) w51)))))
def an_client_Client_answered : Ann := ⟨[], [], [6, 13]⟩
theorem e_client_Client_answered (R : Value → World → Prop) (x0 : Option Addr) (x1 : Value) (w : World) : denF P an_client_Client_answered Try.f46 [.pointer x0, x1] w R = S_client_Client_answered R x0 x1 w := by kernel_rfl
theorem c_client_Client_answered {R : Value → World → Prop} {x0 : Option Addr} {x1 : Value} {w : World} (h : S_client_Client_answered R x0 x1 w) : CallP P F_client_Client_answered [.pointer x0, x1] w R := calls_of_denF (an := an_client_Client_answered) Try.func46 (by rw [e_client_Client_answered]; exact h)


/-- (*penstock/client.Client).refused -/
def S_client_Client_refused (R : Value → World → Prop) (x0 : Option Addr) (x1 : Int) (w : World) : Prop :=
 ifB (x1 == 17)
 (CallP P F_client_Client_tell [(.pointer x0), (.agg #[(.int .i64 4), (.int .i64 0), (.int .i64 0), (.int .i64 0), (.int .i64 0), (.string (ByteArray.mk #[])), (.int .i64 x1)])] w fun (v0 : Value) w1 =>
  TupP [] v0 fun (t2 : Unit) =>
   nilCk x0 fun (a3 : Addr) =>
    RunQ .sl P (Instr.loadAt T_sl_api_Op (.pointer (some (a3.add 6)))) w1 fun (s4 : Sl) =>
     nilCk x0 fun (a5 : Addr) =>
      StoreP P T_int (.pointer (some (a5.add 8))) (.int .i64 ((↑s4.len : Int))) w1 fun w6 =>
       R (.tuple #[]) w6)
 (ifB (x1 == 15)
  (nilCk x0 fun (a7 : Addr) =>
   RunQ (.int .i64) P (Instr.loadAt T_int (.pointer (some ((a7.add 13).add 0)))) w fun (n8 : Int) =>
    ifB (n8 == 12)
     (CallP P F_client_Client_away [(.pointer x0)] w fun (v9 : Value) w10 =>
      TupP [] v9 fun (t11 : Unit) =>
       nilCk x0 fun (a12 : Addr) =>
        RunQ (.int .i64) P (Instr.loadAt T_int (.pointer (some (a12.add 8)))) w10 fun (n13 : Int) =>
         nilCk x0 fun (a14 : Addr) =>
          StoreP P T_int (.pointer (some (a14.add 8))) (.int .i64 (IntKind.i64.wrap (n13 + 1))) w10 fun w15 =>
           R (.tuple #[]) w15)
     (JoinP (T := Unit) (fun J16 =>
      ifB (x1 == 15)
       (CallP P F_client_Client_away [(.pointer x0)] w fun (v19 : Value) w20 =>
        TupP [] v19 fun (t21 : Unit) =>
         J16 (some ()) w20)
       (J16 (some ()) w))
      fun t17 w18 =>
      nilCk x0 fun (a22 : Addr) =>
       RunQ (.int .i64) P (Instr.loadAt T_int (.pointer (some (a22.add 10)))) w18 fun (n23 : Int) =>
        nilCk x0 fun (a24 : Addr) =>
         StoreP P T_int (.pointer (some (a24.add 10))) (.int .i64 (IntKind.i64.wrap (n23 + 1))) w18 fun w25 =>
          nilCk x0 fun (a26 : Addr) =>
           StoreP P T_bool (.pointer (some ((a26.add 77).add 0))) (.bool false) w25 fun w27 =>
            nilCk x0 fun (a28 : Addr) =>
             StoreP P T_int (.pointer (some ((a28.add 84).add 10))) (.int .i64 0) w27 fun w29 =>
              R (.tuple #[]) w29))
  (JoinP (T := Unit) (fun J30 =>
   ifB (x1 == 15)
    (CallP P F_client_Client_away [(.pointer x0)] w fun (v33 : Value) w34 =>
     TupP [] v33 fun (t35 : Unit) =>
      J30 (some ()) w34)
    (J30 (some ()) w))
   fun t31 w32 =>
   nilCk x0 fun (a36 : Addr) =>
    RunQ (.int .i64) P (Instr.loadAt T_int (.pointer (some (a36.add 10)))) w32 fun (n37 : Int) =>
     nilCk x0 fun (a38 : Addr) =>
      StoreP P T_int (.pointer (some (a38.add 10))) (.int .i64 (IntKind.i64.wrap (n37 + 1))) w32 fun w39 =>
       nilCk x0 fun (a40 : Addr) =>
        StoreP P T_bool (.pointer (some ((a40.add 77).add 0))) (.bool false) w39 fun w41 =>
         nilCk x0 fun (a42 : Addr) =>
          StoreP P T_int (.pointer (some ((a42.add 84).add 10))) (.int .i64 0) w41 fun w43 =>
           R (.tuple #[]) w43))
def an_client_Client_refused : Ann := ⟨[(2, [])], [], []⟩
theorem e_client_Client_refused (R : Value → World → Prop) (x0 : Option Addr) (x1 : Int) (w : World) : denF P an_client_Client_refused Try.f47 [.pointer x0, .int .i64 x1] w R = S_client_Client_refused R x0 x1 w := by kernel_rfl
theorem c_client_Client_refused {R : Value → World → Prop} {x0 : Option Addr} {x1 : Int} {w : World} (h : S_client_Client_refused R x0 x1 w) : CallP P F_client_Client_refused [.pointer x0, .int .i64 x1] w R := calls_of_denF (an := an_client_Client_refused) Try.func47 (by rw [e_client_Client_refused]; exact h)


/-- (*penstock/client.Client).given -/
def S_client_Client_given (R : Value → World → Prop) (x0 : Option Addr) (x1 : Value) (w : World) : Prop :=
 RunK .addr P (Instr.box T_api_Msg x1) w fun (a0 : Addr) w1 =>
 nilCk x0 fun (a2 : Addr) =>
  RunQ (.int .i64) P (Instr.loadAt T_int (.pointer (some ((a2.add 77).add 4)))) w1.drew fun (n3 : Int) =>
   nilCk x0 fun (a4 : Addr) =>
    RunQ (.int .u64) P (Instr.loadAt T_uint64 (.pointer (some ((a4.add 77).add 1)))) w1.drew fun (n5 : Int) =>
     nilCk x0 fun (a6 : Addr) =>
      RunQ (.int .i64) P (Instr.loadAt T_int (.pointer (some ((a6.add 77).add 3)))) w1.drew fun (n7 : Int) =>
       ∃ S8 : World → Prop, (S8 w1.drew.drew) ∧
         HRun S8 (.int .u64) P (Instr.loadAt T_uint64 (.pointer (some (Go.Addr.add a0 49)))) fun (n9 : Int) =>
          HRun S8 (.int .i64) P (Instr.loadAt T_int (.pointer (some (Go.Addr.add a0 50)))) fun (n10 : Int) =>
           nilCk x0 fun (a11 : Addr) =>
            StoreP P T_bool (.pointer (some ((a11.add 77).add 0))) (.bool true) w1.drew.drew fun w12 =>
             (S8 w12) ∧
              nilCk x0 fun (a13 : Addr) =>
               StoreP P T_uint64 (.pointer (some ((a13.add 77).add 1))) (.int .u64 n9) w12 fun w14 =>
                (S8 w14) ∧
                nilCk x0 fun (a15 : Addr) =>
                StoreP P T_int (.pointer (some ((a15.add 77).add 2))) (.int .i64 n10) w14 fun w16 =>
                (S8 w16) ∧
                CallP P F_client_Client_close [(.pointer x0)] w16 fun (v17 : Value) w18 =>
                TupP [] v17 fun (t19 : Unit) =>
                ifB (decide (n3 < 0))
                (R (.tuple #[]) w18)
                (JoinP (T := Bool × Unit) (fun J20 =>
                RunQ (.int .i64) P (Instr.loadAt T_int (.pointer (some (Go.Addr.add a0 46)))) w18 fun (n23 : Int) =>
                ifB (n23 == n3)
                (RunQ (.int .i64) P (Instr.loadAt T_int (.pointer (some (Go.Addr.add a0 58)))) w18 fun (n24 : Int) =>
                J20 (some ((IntKind.u64.wrap n24 == n5), ())) w18)
                (J20 (some (false, ())) w18))
                fun t21 w22 =>
                JoinP (T := Int × Unit) (fun J25 =>
                nilCk x0 fun (a28 : Addr) =>
                RunQ (.int .i64) P (Instr.loadAt T_int (.pointer (some (a28.add 8)))) w22.drew fun (n29 : Int) =>
                nilCk x0 fun (a30 : Addr) =>
                RunQ .sl P (Instr.loadAt T_sl_api_Op (.pointer (some (a30.add 6)))) w22.drew fun (s31 : Sl) =>
                ifB (decide (n29 < (↑s31.len : Int)))
                (nilCk x0 fun (a32 : Addr) =>
                RunQ .sl P (Instr.loadAt T_sl_api_Op (.pointer (some (a32.add 6)))) w22.drew.drew fun (s33 : Sl) =>
                nilCk x0 fun (a34 : Addr) =>
                RunQ (.int .i64) P (Instr.loadAt T_int (.pointer (some (a34.add 8)))) w22.drew.drew fun (n35 : Int) =>
                RunQ .addr P (Instr.indexAt T_sl_api_Op s33.v (.int .i64 n35)) w22.drew.drew fun (a36 : Addr) =>
                RunQ (.int .i64) P (Instr.loadAt T_int (.pointer (some (Go.Addr.add a36 0)))) w22.drew.drew fun (n37 : Int) =>
                J25 (some (n37, ())) w22.drew.drew)
                (J25 (some (0, ())) w22.drew))
                fun t26 w27 =>
                ifB t21.fst
                (RunQ .bool P (Instr.loadAt T_bool (.pointer (some (Go.Addr.add a0 51)))) w27 fun (b38 : Bool) =>
                ifB b38
                (ifB (t26.fst == 2)
                (CallP P F_client_Client_ended [(.pointer x0), (.bool true)] w27 fun (v39 : Value) w40 =>
                TupP [] v39 fun (t41 : Unit) =>
                R (.tuple #[]) w40)
                (ifB (t26.fst == 5)
                (CallP P F_client_Client_ended [(.pointer x0), (.bool true)] w27 fun (v42 : Value) w43 =>
                TupP [] v42 fun (t44 : Unit) =>
                R (.tuple #[]) w43)
                (ifB t21.fst
                (RunQ .bool P (Instr.loadAt T_bool (.pointer (some (Go.Addr.add a0 51)))) w27 fun (b45 : Bool) =>
                ifB (!b45)
                (ifB (t26.fst == 3)
                (CallP P F_client_Client_ended [(.pointer x0), (.bool false)] w27 fun (v46 : Value) w47 =>
                TupP [] v46 fun (t48 : Unit) =>
                R (.tuple #[]) w47)
                (CallP P F_client_Client_tell [(.pointer x0), (.agg #[(.int .i64 4), (.int .i64 0), (.int .i64 0), (.int .i64 0), (.int .i64 0), (.string (ByteArray.mk #[])), (.int .i64 14)])] w27 fun (v49 : Value) w50 =>
                TupP [] v49 fun (t51 : Unit) =>
                nilCk x0 fun (a52 : Addr) =>
                StoreP P T_int (.pointer (some (a52.add 8))) (.int .i64 n7) w50 fun w53 =>
                R (.tuple #[]) w53))
                (CallP P F_client_Client_tell [(.pointer x0), (.agg #[(.int .i64 4), (.int .i64 0), (.int .i64 0), (.int .i64 0), (.int .i64 0), (.string (ByteArray.mk #[])), (.int .i64 14)])] w27 fun (v54 : Value) w55 =>
                TupP [] v54 fun (t56 : Unit) =>
                nilCk x0 fun (a57 : Addr) =>
                StoreP P T_int (.pointer (some (a57.add 8))) (.int .i64 n7) w55 fun w58 =>
                R (.tuple #[]) w58))
                (CallP P F_client_Client_tell [(.pointer x0), (.agg #[(.int .i64 4), (.int .i64 0), (.int .i64 0), (.int .i64 0), (.int .i64 0), (.string (ByteArray.mk #[])), (.int .i64 14)])] w27 fun (v59 : Value) w60 =>
                TupP [] v59 fun (t61 : Unit) =>
                nilCk x0 fun (a62 : Addr) =>
                StoreP P T_int (.pointer (some (a62.add 8))) (.int .i64 n7) w60 fun w63 =>
                R (.tuple #[]) w63))))
                (ifB t21.fst
                (RunQ .bool P (Instr.loadAt T_bool (.pointer (some (Go.Addr.add a0 51)))) w27 fun (b64 : Bool) =>
                ifB (!b64)
                (ifB (t26.fst == 3)
                (CallP P F_client_Client_ended [(.pointer x0), (.bool false)] w27 fun (v65 : Value) w66 =>
                TupP [] v65 fun (t67 : Unit) =>
                R (.tuple #[]) w66)
                (CallP P F_client_Client_tell [(.pointer x0), (.agg #[(.int .i64 4), (.int .i64 0), (.int .i64 0), (.int .i64 0), (.int .i64 0), (.string (ByteArray.mk #[])), (.int .i64 14)])] w27 fun (v68 : Value) w69 =>
                TupP [] v68 fun (t70 : Unit) =>
                nilCk x0 fun (a71 : Addr) =>
                StoreP P T_int (.pointer (some (a71.add 8))) (.int .i64 n7) w69 fun w72 =>
                R (.tuple #[]) w72))
                (CallP P F_client_Client_tell [(.pointer x0), (.agg #[(.int .i64 4), (.int .i64 0), (.int .i64 0), (.int .i64 0), (.int .i64 0), (.string (ByteArray.mk #[])), (.int .i64 14)])] w27 fun (v73 : Value) w74 =>
                TupP [] v73 fun (t75 : Unit) =>
                nilCk x0 fun (a76 : Addr) =>
                StoreP P T_int (.pointer (some (a76.add 8))) (.int .i64 n7) w74 fun w77 =>
                R (.tuple #[]) w77))
                (CallP P F_client_Client_tell [(.pointer x0), (.agg #[(.int .i64 4), (.int .i64 0), (.int .i64 0), (.int .i64 0), (.int .i64 0), (.string (ByteArray.mk #[])), (.int .i64 14)])] w27 fun (v78 : Value) w79 =>
                TupP [] v78 fun (t80 : Unit) =>
                nilCk x0 fun (a81 : Addr) =>
                StoreP P T_int (.pointer (some (a81.add 8))) (.int .i64 n7) w79 fun w82 =>
                R (.tuple #[]) w82)))
                (ifB t21.fst
                (RunQ .bool P (Instr.loadAt T_bool (.pointer (some (Go.Addr.add a0 51)))) w27 fun (b83 : Bool) =>
                ifB (!b83)
                (ifB (t26.fst == 3)
                (CallP P F_client_Client_ended [(.pointer x0), (.bool false)] w27 fun (v84 : Value) w85 =>
                TupP [] v84 fun (t86 : Unit) =>
                R (.tuple #[]) w85)
                (CallP P F_client_Client_tell [(.pointer x0), (.agg #[(.int .i64 4), (.int .i64 0), (.int .i64 0), (.int .i64 0), (.int .i64 0), (.string (ByteArray.mk #[])), (.int .i64 14)])] w27 fun (v87 : Value) w88 =>
                TupP [] v87 fun (t89 : Unit) =>
                nilCk x0 fun (a90 : Addr) =>
                StoreP P T_int (.pointer (some (a90.add 8))) (.int .i64 n7) w88 fun w91 =>
                R (.tuple #[]) w91))
                (CallP P F_client_Client_tell [(.pointer x0), (.agg #[(.int .i64 4), (.int .i64 0), (.int .i64 0), (.int .i64 0), (.int .i64 0), (.string (ByteArray.mk #[])), (.int .i64 14)])] w27 fun (v92 : Value) w93 =>
                TupP [] v92 fun (t94 : Unit) =>
                nilCk x0 fun (a95 : Addr) =>
                StoreP P T_int (.pointer (some (a95.add 8))) (.int .i64 n7) w93 fun w96 =>
                R (.tuple #[]) w96))
                (CallP P F_client_Client_tell [(.pointer x0), (.agg #[(.int .i64 4), (.int .i64 0), (.int .i64 0), (.int .i64 0), (.int .i64 0), (.string (ByteArray.mk #[])), (.int .i64 14)])] w27 fun (v97 : Value) w98 =>
                TupP [] v97 fun (t99 : Unit) =>
                nilCk x0 fun (a100 : Addr) =>
                StoreP P T_int (.pointer (some (a100.add 8))) (.int .i64 n7) w98 fun w101 =>
                R (.tuple #[]) w101)))
def an_client_Client_given : Ann := ⟨[(12, [(8, (.int .i64))]), (7, [(7, .bool)])], [], []⟩
theorem e_client_Client_given (R : Value → World → Prop) (x0 : Option Addr) (x1 : Value) (w : World) : denF P an_client_Client_given Try.f60 [.pointer x0, x1] w R = S_client_Client_given R x0 x1 w := by kernel_rfl
theorem c_client_Client_given {R : Value → World → Prop} {x0 : Option Addr} {x1 : Value} {w : World} (h : S_client_Client_given R x0 x1 w) : CallP P F_client_Client_given [.pointer x0, x1] w R := calls_of_denF (an := an_client_Client_given) Try.func60 (by rw [e_client_Client_given]; exact h)


/-- (*penstock/client.Client).sent -/
def S_client_Client_sent (R : Value → World → Prop) (x0 : Option Addr) (x1 : Value) (w : World) : Prop :=
 RunK .addr P (Instr.box T_api_Msg x1) w fun (a0 : Addr) w1 =>
 nilCk x0 fun (a2 : Addr) =>
  RunQ (.int .i64) P (Instr.loadAt T_int (.pointer (some ((a2.add 13).add 45)))) w1 fun (n3 : Int) =>
   nilCk x0 fun (a4 : Addr) =>
    RunQ .sl P (Instr.loadAt T_sl_sl_uint8 (.pointer (some (((a4.add 13).add 36).add 8)))) w1 fun (s5 : Sl) =>
     LoopP (T := Int × Unit) (some (0, ())) w1 fun next6 t7 w8 =>
      ifB (decide (t7.fst < (↑s5.len : Int)))
       (RunQ .addr P (Instr.indexAt T_sl_sl_uint8 s5.v (.int .i64 t7.fst)) w8 fun (a9 : Addr) =>
        RunQ .sl P (Instr.loadAt T_sl_uint8 (.pointer (some a9))) w8 fun (s10 : Sl) =>
         RunQ (.int .i64) P (Instr.loadAt T_int (.pointer (some (Go.Addr.add a0 46)))) w8 fun (n11 : Int) =>
          RunK .str P (convert T_sl_uint8 T_string s10.v) w8 fun (t12 : ByteArray) w13 =>
           CallP P F_client_Client_tell [(.pointer x0), (.agg #[(.int .i64 1), (.int .i64 0), (.int .i64 0), (.int .i64 n3), (.int .i64 (IntKind.i64.wrap (n11 + t7.fst))), (.string t12), (.int .i64 0)])] w13 fun (v14 : Value) w15 =>
            TupP [] v14 fun (t16 : Unit) =>
             next6 (some ((IntKind.i64.wrap (t7.fst + 1)), ())) w15)
       (∃ S17 : World → Prop, (S17 w8.drew) ∧
         nilCk x0 fun (a18 : Addr) =>
          HRun S17 .sl P (Instr.loadAt T_sl_int (.pointer (some ((a18.add 77).add 6)))) fun (s19 : Sl) =>
           HRun S17 .addr P (Instr.indexAt T_sl_int s19.v (.int .i64 n3)) fun (a20 : Addr) =>
            nilCk x0 fun (a21 : Addr) =>
             HRun S17 .sl P (Instr.loadAt T_sl_sl_uint8 (.pointer (some (((a21.add 13).add 36).add 8)))) fun (s22 : Sl) =>
              RunQ (.int .i64) P (Instr.loadAt T_int (.pointer (some a20))) w8.drew fun (n23 : Int) =>
               (S17 w8.drew) ∧
                HRun S17 .addr P (Instr.indexAt T_sl_int s19.v (.int .i64 n3)) fun (a24 : Addr) =>
                StoreP P T_int (.pointer (some a24)) (.int .i64 (IntKind.i64.wrap (n23 + (↑s22.len : Int)))) w8.drew fun w25 =>
                (S17 w25) ∧
                nilCk x0 fun (a26 : Addr) =>
                RunQ .sl P (Instr.loadAt T_sl_api_Op (.pointer (some (a26.add 6)))) w25.drew fun (s27 : Sl) =>
                nilCk x0 fun (a28 : Addr) =>
                RunQ (.int .i64) P (Instr.loadAt T_int (.pointer (some (a28.add 8)))) w25.drew fun (n29 : Int) =>
                RunQ .addr P (Instr.indexAt T_sl_api_Op s27.v (.int .i64 n29)) w25.drew fun (a30 : Addr) =>
                RunQ (.int .i64) P (Instr.loadAt T_int (.pointer (some (Go.Addr.add a30 0)))) w25.drew fun (n31 : Int) =>
                ifB (n31 == 5)
                (nilCk x0 fun (a32 : Addr) =>
                StoreP P T_int (.pointer (some ((a32.add 84).add 10))) (.int .i64 2) w25.drew fun w33 =>
                R (.tuple #[]) w33)
                (nilCk x0 fun (a34 : Addr) =>
                RunQ (.int .i64) P (Instr.loadAt T_int (.pointer (some (a34.add 8)))) w25.drew fun (n35 : Int) =>
                nilCk x0 fun (a36 : Addr) =>
                StoreP P T_int (.pointer (some (a36.add 8))) (.int .i64 (IntKind.i64.wrap (n35 + 1))) w25.drew fun w37 =>
                R (.tuple #[]) w37))
def an_client_Client_sent : Ann := ⟨[], [(3, [(19, (.int .i64))])], [7]⟩
theorem e_client_Client_sent (R : Value → World → Prop) (x0 : Option Addr) (x1 : Value) (w : World) : denF P an_client_Client_sent Try.f61 [.pointer x0, x1] w R = S_client_Client_sent R x0 x1 w := by kernel_rfl
theorem c_client_Client_sent {R : Value → World → Prop} {x0 : Option Addr} {x1 : Value} {w : World} (h : S_client_Client_sent R x0 x1 w) : CallP P F_client_Client_sent [.pointer x0, x1] w R := calls_of_denF (an := an_client_Client_sent) Try.func61 (by rw [e_client_Client_sent]; exact h)


/-- (*penstock/client.Client).placed -/
def S_client_Client_placed (R : Value → World → Prop) (x0 : Option Addr) (x1 : Value) (w : World) : Prop :=
 RunK .addr P (Instr.box T_api_Msg x1) w fun (a0 : Addr) w1 =>
 nilCk x0 fun (a2 : Addr) =>
  nilCk x0 fun (a3 : Addr) =>
   RunQ (.int .i64) P (Instr.loadAt T_int (.pointer (some ((a3.add 13).add 0)))) w1 fun (n4 : Int) =>
    ifB (n4 == 11)
     (CallP P F_client_Client_away [(.pointer x0)] w1 fun (v5 : Value) w6 =>
      TupP [] v5 fun (t7 : Unit) =>
       ∃ S8 : World → Prop, (S8 w6.drew) ∧
         HRun S8 (.int .i64) P (Instr.loadAt T_int (.pointer (some (Go.Addr.add a0 53)))) fun (n9 : Int) =>
          StoreP P T_bool (.pointer (some ((a2.add 84).add 0))) (.bool true) w6.drew fun w10 =>
           (S8 w10) ∧
            StoreP P T_int (.pointer (some ((a2.add 84).add 1))) (.int .i64 n9) w10 fun w11 =>
             (S8 w11) ∧
              ∃ S12 : World → Prop, (S12 w11.drew) ∧
                HRun S12 .sl P (Instr.loadAt T_sl_int (.pointer (some (Go.Addr.add a0 55)))) fun (s13 : Sl) =>
                nilCk x0 fun (a14 : Addr) =>
                HRun S12 (.int .i64) P (Instr.loadAt T_int (.pointer (some ((a14.add 2).add 1)))) fun (n15 : Int) =>
                nilCk x0 fun (a16 : Addr) =>
                HRun S12 (.int .i64) P (Instr.loadAt T_int (.pointer (some (a16.add 1)))) fun (n17 : Int) =>
                CallP P F_client_owned [s13.v, (.int .i64 n15), (.int .i64 n17)] w11.drew fun (v18 : Value) w19 =>
                TyP .sl v18 fun (s20 : Sl) =>
                (S12 w19) ∧
                StoreP P T_sl_int (.pointer (some ((a2.add 84).add 2))) s20.v w19 fun w21 =>
                (S12 w21) ∧
                R (.tuple #[]) w21)
     (ifB (n4 == 14)
      (∃ S22 : World → Prop, (S22 w1.drew) ∧
        HRun S22 .sl P (Instr.loadAt T_sl_int (.pointer (some ((a2.add 84).add 3)))) fun (s23 : Sl) =>
         nilCk x0 fun (a24 : Addr) =>
          HRun S22 (.int .i64) P (Instr.loadAt T_int (.pointer (some ((a24.add 13).add 45)))) fun (n25 : Int) =>
           HRun S22 .sl P (Instr.loadAt T_sl_int (.pointer (some ((a2.add 84).add 4)))) fun (s26 : Sl) =>
            nilCk x0 fun (a27 : Addr) =>
             HRun S22 (.int .i64) P (Instr.loadAt T_int (.pointer (some ((a27.add 13).add 45)))) fun (n28 : Int) =>
              HRun S22 (.int .i64) P (Instr.loadAt T_int (.pointer (some (Go.Addr.add a0 46)))) fun (n29 : Int) =>
               HRun S22 (.int .i64) P (Instr.loadAt T_int (.pointer (some (Go.Addr.add a0 46)))) fun (n30 : Int) =>
                HRun S22 .addr P (Instr.indexAt T_sl_int s23.v (.int .i64 n25)) fun (a31 : Addr) =>
                StoreP P T_int (.pointer (some a31)) (.int .i64 n29) w1.drew fun w32 =>
                (S22 w32) ∧
                HRun S22 .addr P (Instr.indexAt T_sl_int s26.v (.int .i64 n28)) fun (a33 : Addr) =>
                StoreP P T_int (.pointer (some a33)) (.int .i64 n30) w32 fun w34 =>
                (S22 w34) ∧
                ∃ S35 : World → Prop, (S35 w34.drew) ∧
                nilCk x0 fun (a36 : Addr) =>
                HRun S35 (.int .i64) P (Instr.loadAt T_int (.pointer (some ((a36.add 13).add 45)))) fun (n37 : Int) =>
                HRun S35 (.int .i64) P (Instr.loadAt T_int (.pointer (some (Go.Addr.add a0 46)))) fun (n38 : Int) =>
                CallP P F_client_Client_tell [(.pointer x0), (.agg #[(.int .i64 6), (.int .i64 0), (.int .i64 0), (.int .i64 n37), (.int .i64 n38), (.string (ByteArray.mk #[])), (.int .i64 0)])] w34.drew fun (v39 : Value) w40 =>
                TupP [] v39 fun (t41 : Unit) =>
                (S35 w40) ∧
                R (.tuple #[]) w40)
      (ifB (n4 == 12)
       (∃ S42 : World → Prop, (S42 w1.drew) ∧
         HRun S42 .sl P (Instr.loadAt T_sl_int (.pointer (some ((a2.add 84).add 4)))) fun (s43 : Sl) =>
          nilCk x0 fun (a44 : Addr) =>
           HRun S42 (.int .i64) P (Instr.loadAt T_int (.pointer (some ((a44.add 13).add 45)))) fun (n45 : Int) =>
            nilCk x0 fun (a46 : Addr) =>
             HRun S42 (.int .i64) P (Instr.loadAt T_int (.pointer (some ((a46.add 13).add 46)))) fun (n47 : Int) =>
              HRun S42 .addr P (Instr.indexAt T_sl_int s43.v (.int .i64 n45)) fun (a48 : Addr) =>
               StoreP P T_int (.pointer (some a48)) (.int .i64 n47) w1.drew fun w49 =>
                (S42 w49) ∧
                R (.tuple #[]) w49)
       (ifB (n4 == 6)
        (RunQ .val P (Instr.loadAt T_api_Msg (.pointer (some a0))) w1 fun (v50 : Value) =>
         CallP P F_client_Client_read [(.pointer x0), v50] w1 fun (v51 : Value) w52 =>
          TupP [] v51 fun (t53 : Unit) =>
           R (.tuple #[]) w52)
        (R (.tuple #[]) w1))))
def an_client_Client_placed : Ann := ⟨[], [], []⟩
theorem e_client_Client_placed (R : Value → World → Prop) (x0 : Option Addr) (x1 : Value) (w : World) : denF P an_client_Client_placed Try.f63 [.pointer x0, x1] w R = S_client_Client_placed R x0 x1 w := by kernel_rfl
theorem c_client_Client_placed {R : Value → World → Prop} {x0 : Option Addr} {x1 : Value} {w : World} (h : S_client_Client_placed R x0 x1 w) : CallP P F_client_Client_placed [.pointer x0, x1] w R := calls_of_denF (an := an_client_Client_placed) Try.func63 (by rw [e_client_Client_placed]; exact h)


/-- (*penstock/client.Client).poll -/
def S_client_Client_poll (R : Value → World → Prop) (x0 : Option Addr) (x1 : Value) (w : World) : Prop :=
 RunK .addr P (Instr.box T_api_Op x1) w fun (a0 : Addr) w1 =>
 nilCk x0 fun (a2 : Addr) =>
  RunQ .sl P (Instr.loadAt T_sl_int (.pointer (some ((a2.add 84).add 2)))) w1 fun (s3 : Sl) =>
   CallP P F_client_Client_settle [(.pointer x0), s3.v] w1 fun (v4 : Value) w5 =>
    TyP .bool v4 fun (b6 : Bool) =>
     ifB (!b6)
      (R (.tuple #[]) w5)
      (JoinP (T := Unit) (fun J7 =>
       RunQ (.int .i64) P (Instr.loadAt T_int (.pointer (some ((a2.add 84).add 10)))) w5 fun (n10 : Int) =>
        ifB (n10 == 0)
         (JoinP (T := Unit) (fun J11 =>
          RunQ (.int .i64) P (Instr.loadAt T_int (.pointer (some ((a2.add 84).add 7)))) w5.drew fun (n14 : Int) =>
           RunQ (.int .i64) P (Instr.loadAt T_int (.pointer (some (Go.Addr.add a0 3)))) w5.drew fun (n15 : Int) =>
            ifB (decide (n14 < n15))
             (RunQ (.int .i64) P (Instr.loadAt T_int (.pointer (some ((a2.add 84).add 6)))) w5.drew fun (n16 : Int) =>
              RunQ .sl P (Instr.loadAt T_sl_int (.pointer (some ((a2.add 84).add 2)))) w5.drew fun (s17 : Sl) =>
               ifB (decide (n16 < (↑s17.len : Int)))
                (∃ S18 : World → Prop, (S18 w5.drew.drew) ∧
                HRun S18 .sl P (Instr.loadAt T_sl_int (.pointer (some ((a2.add 84).add 2)))) fun (s19 : Sl) =>
                HRun S18 (.int .i64) P (Instr.loadAt T_int (.pointer (some ((a2.add 84).add 5)))) fun (n20 : Int) =>
                HRun S18 .sl P (Instr.loadAt T_sl_int (.pointer (some ((a2.add 84).add 2)))) fun (s21 : Sl) =>
                RunK (.int .i64) P (do (eqGuard .rem T_int (.tmp 0) (.tmp 0) (.int .i64 n20) (.int .i64 ((↑s21.len : Int)))); (binOp .rem T_int (.int .i64 n20) (.int .i64 ((↑s21.len : Int))))) w5.drew.drew fun (n22 : Int) w23 =>
                (S18 w23) ∧
                HRun S18 .addr P (Instr.indexAt T_sl_int s19.v (.int .i64 n22)) fun (a24 : Addr) =>
                HRun S18 (.int .i64) P (Instr.loadAt T_int (.pointer (some a24))) fun (n25 : Int) =>
                RunQ .sl P (Instr.loadAt T_sl_int (.pointer (some ((a2.add 84).add 3)))) w23 fun (s26 : Sl) =>
                RunQ .addr P (Instr.indexAt T_sl_int s26.v (.int .i64 n25)) w23 fun (a27 : Addr) =>
                RunQ (.int .i64) P (Instr.loadAt T_int (.pointer (some a27))) w23 fun (n28 : Int) =>
                CallP P F_client_Client_ask [(.pointer x0), (.agg #[(.int .i64 6), (.int .i64 0), (.int .i64 0), (.int .i64 0), (.int .i64 0), (.int .i64 0), (.int .i64 0), (.int .i64 0), (.int .i64 0), (.int .i64 0), (.int .i64 0), (.int .i64 0), (.bool false), (.slice none 0 0), (.slice none 0 0), (.int .i64 0), (.int .i64 0), (.int .i64 0), (.int .i64 0), (.int .i64 0), (.int .i64 0), (.int .i64 0), (.int .i64 0), (.int .i64 0), (.bool false), (.int .i64 0), (.int .i64 0), (.int .i64 0), (.int .i64 0), (.slice none 0 0), (.int .i64 0), (.int .i64 0), (.int .i64 0), (.int .i64 0), (.int .i64 0), (.slice none 0 0), (.int .i64 0), (.int .i64 0), (.int .u64 0), (.int .i64 0), (.int .i64 0), (.bool false), (.bool false), (.bool false), (.slice none 0 0), (.int .i64 n25), (.int .i64 n28), (.int .i64 0), (.int .i64 0), (.int .u64 0), (.int .i64 0), (.bool false), (.int .i64 0), (.int .i64 0), (.int .i64 0), (.slice none 0 0), (.slice none 0 0), (.slice none 0 0), (.int .i64 0)])] w23 fun (v29 : Value) w30 =>
                TupP [] v29 fun (t31 : Unit) =>
                R (.tuple #[]) w30)
                (J11 (some ()) w5.drew))
             (J11 (some ()) w5.drew))
          fun t12 w13 =>
          StoreP P T_int (.pointer (some ((a2.add 84).add 10))) (.int .i64 1) w13 fun w32 =>
           J7 (some ()) w32)
         (J7 (some ()) w5))
       fun t8 w9 =>
       RunQ .sl P (Instr.loadAt T_sl_int (.pointer (some ((a2.add 84).add 2)))) w9 fun (s33 : Sl) =>
        LoopP (T := Int × Unit) (some (0, ())) w9 fun next34 t35 w36 =>
         ifB (decide (t35.fst < (↑s33.len : Int)))
          (RunQ .addr P (Instr.indexAt T_sl_int s33.v (.int .i64 t35.fst)) w36 fun (a37 : Addr) =>
           RunQ (.int .i64) P (Instr.loadAt T_int (.pointer (some a37))) w36 fun (n38 : Int) =>
            RunQ .sl P (Instr.loadAt T_sl_int (.pointer (some ((a2.add 84).add 3)))) w36.drew fun (s39 : Sl) =>
             RunQ .addr P (Instr.indexAt T_sl_int s39.v (.int .i64 n38)) w36.drew fun (a40 : Addr) =>
              RunQ (.int .i64) P (Instr.loadAt T_int (.pointer (some a40))) w36.drew fun (n41 : Int) =>
               RunQ .sl P (Instr.loadAt T_sl_int (.pointer (some ((a2.add 84).add 4)))) w36.drew fun (s42 : Sl) =>
                RunQ .addr P (Instr.indexAt T_sl_int s42.v (.int .i64 n38)) w36.drew fun (a43 : Addr) =>
                RunQ (.int .i64) P (Instr.loadAt T_int (.pointer (some a43))) w36.drew fun (n44 : Int) =>
                ifB (decide (n41 > n44))
                (∃ S45 : World → Prop, (S45 w36.drew.drew) ∧
                HRun S45 (.int .i64) P (Instr.loadAt T_int (.pointer (some ((a2.add 84).add 1)))) fun (n46 : Int) =>
                HRun S45 .sl P (Instr.loadAt T_sl_int (.pointer (some ((a2.add 84).add 3)))) fun (s47 : Sl) =>
                HRun S45 .addr P (Instr.indexAt T_sl_int s47.v (.int .i64 n38)) fun (a48 : Addr) =>
                HRun S45 (.int .i64) P (Instr.loadAt T_int (.pointer (some a48))) fun (n49 : Int) =>
                CallP P F_client_Client_ask [(.pointer x0), (.agg #[(.int .i64 12), (.int .i64 0), (.int .i64 0), (.int .i64 0), (.int .i64 0), (.int .i64 0), (.int .i64 0), (.int .i64 0), (.int .i64 0), (.int .i64 0), (.int .i64 0), (.int .i64 0), (.bool false), (.slice none 0 0), (.slice none 0 0), (.int .i64 0), (.int .i64 0), (.int .i64 0), (.int .i64 0), (.int .i64 0), (.int .i64 0), (.int .i64 0), (.int .i64 0), (.int .i64 0), (.bool false), (.int .i64 0), (.int .i64 0), (.int .i64 0), (.int .i64 0), (.slice none 0 0), (.int .i64 0), (.int .i64 0), (.int .i64 0), (.int .i64 0), (.int .i64 0), (.slice none 0 0), (.int .i64 0), (.int .i64 0), (.int .u64 0), (.int .i64 0), (.int .i64 0), (.bool false), (.bool false), (.bool false), (.slice none 0 0), (.int .i64 n38), (.int .i64 n49), (.int .i64 0), (.int .i64 0), (.int .u64 0), (.int .i64 0), (.bool false), (.int .i64 0), (.int .i64 n46), (.int .i64 0), (.slice none 0 0), (.slice none 0 0), (.slice none 0 0), (.int .i64 0)])] w36.drew.drew fun (v50 : Value) w51 =>
                TupP [] v50 fun (t52 : Unit) =>
                (S45 w51) ∧
                R (.tuple #[]) w51)
                (next34 (some ((IntKind.i64.wrap (t35.fst + 1)), ())) w36.drew))
          (StoreP P T_int (.pointer (some ((a2.add 84).add 10))) (.int .i64 0) w36 fun w53 =>
           StoreP P T_int (.pointer (some ((a2.add 84).add 7))) (.int .i64 0) w53 fun w54 =>
            StoreP P T_int (.pointer (some ((a2.add 84).add 6))) (.int .i64 0) w54 fun w55 =>
             nilCk x0 fun (a56 : Addr) =>
              RunQ (.int .i64) P (Instr.loadAt T_int (.pointer (some (a56.add 8)))) w55 fun (n57 : Int) =>
               nilCk x0 fun (a58 : Addr) =>
                StoreP P T_int (.pointer (some (a58.add 8))) (.int .i64 (IntKind.i64.wrap (n57 + 1))) w55 fun w59 =>
                R (.tuple #[]) w59))
def an_client_Client_poll : Ann := ⟨[(7, []), (8, [])], [(9, [(77, (.int .i64))])], []⟩
theorem e_client_Client_poll (R : Value → World → Prop) (x0 : Option Addr) (x1 : Value) (w : World) : denF P an_client_Client_poll Try.f67 [.pointer x0, x1] w R = S_client_Client_poll R x0 x1 w := by kernel_rfl
theorem c_client_Client_poll {R : Value → World → Prop} {x0 : Option Addr} {x1 : Value} {w : World} (h : S_client_Client_poll R x0 x1 w) : CallP P F_client_Client_poll [.pointer x0, x1] w R := calls_of_denF (an := an_client_Client_poll) Try.func67 (by rw [e_client_Client_poll]; exact h)


/-- (*penstock/client.Client).copy -/
def S_client_Client_copy (R : Value → World → Prop) (x0 : Option Addr) (x1 : Value) (w : World) : Prop :=
 RunK .addr P (Instr.box T_api_Op x1) w fun (a0 : Addr) w1 =>
 nilCk x0 fun (a2 : Addr) =>
  JoinP (T := Unit) (fun J3 =>
   nilCk x0 fun (a6 : Addr) =>
    RunQ (.int .i64) P (Instr.loadAt T_int (.pointer (some ((a6.add 77).add 4)))) w1.drew fun (n7 : Int) =>
     ifB (decide (n7 ≥ 0))
      (nilCk x0 fun (a8 : Addr) =>
       RunQ (.int .i64) P (Instr.loadAt T_int (.pointer (some ((a8.add 77).add 3)))) w1.drew fun (n9 : Int) =>
        nilCk x0 fun (a10 : Addr) =>
         RunQ (.int .i64) P (Instr.loadAt T_int (.pointer (some (a10.add 8)))) w1.drew fun (n11 : Int) =>
          ifB (n9 != n11)
           (CallP P F_client_Client_tell [(.pointer x0), (.agg #[(.int .i64 4), (.int .i64 0), (.int .i64 0), (.int .i64 0), (.int .i64 0), (.string (ByteArray.mk #[])), (.int .i64 5)])] w1.drew fun (v12 : Value) w13 =>
            TupP [] v12 fun (t14 : Unit) =>
             nilCk x0 fun (a15 : Addr) =>
              RunQ (.int .i64) P (Instr.loadAt T_int (.pointer (some (a15.add 8)))) w13 fun (n16 : Int) =>
               nilCk x0 fun (a17 : Addr) =>
                StoreP P T_int (.pointer (some (a17.add 8))) (.int .i64 (IntKind.i64.wrap (n16 + 1))) w13 fun w18 =>
                R (.tuple #[]) w18)
           (J3 (some ()) w1.drew))
      (J3 (some ()) w1.drew))
   fun t4 w5 =>
   JoinP (T := Unit) (fun J19 =>
    RunQ (.int .i64) P (Instr.loadAt T_int (.pointer (some ((a2.add 84).add 10)))) w5 fun (n22 : Int) =>
     ifB (n22 == 0)
      (CallP P F_client_Client_settle [(.pointer x0), (.slice none 0 0)] w5 fun (v23 : Value) w24 =>
       TyP .bool v23 fun (b25 : Bool) =>
        ifB (!b25)
         (R (.tuple #[]) w24)
         (J19 (some ()) w24))
      (J19 (some ()) w5))
    fun t20 w21 =>
    ∃ S26 : World → Prop, (S26 w21.drew) ∧
      HRun S26 .sl P (Instr.loadAt T_sl_int (.pointer (some ((a2.add 84).add 2)))) fun (s27 : Sl) =>
       HRun S26 (.int .i64) P (Instr.loadAt T_int (.pointer (some (Go.Addr.add a0 1)))) fun (n28 : Int) =>
        CallP P F_slices_Contains_int_int [s27.v, (.int .i64 n28)] w21.drew fun (v29 : Value) w30 =>
         TyP .bool v29 fun (b31 : Bool) =>
          (S26 w30) ∧
           ifB (!b31)
            (StoreP P T_int (.pointer (some ((a2.add 84).add 10))) (.int .i64 0) w30 fun w32 =>
             nilCk x0 fun (a33 : Addr) =>
              RunQ (.int .i64) P (Instr.loadAt T_int (.pointer (some (a33.add 8)))) w32 fun (n34 : Int) =>
               nilCk x0 fun (a35 : Addr) =>
                StoreP P T_int (.pointer (some (a35.add 8))) (.int .i64 (IntKind.i64.wrap (n34 + 1))) w32 fun w36 =>
                R (.tuple #[]) w36)
            (RunQ (.int .i64) P (Instr.loadAt T_int (.pointer (some ((a2.add 84).add 10)))) w30 fun (n37 : Int) =>
             ifB (n37 == 0)
              (RunQ (.int .i64) P (Instr.loadAt T_int (.pointer (some (Go.Addr.add a0 1)))) w30 fun (n38 : Int) =>
               RunK .sl P (Instr.buildSlice T_sl_int 1 #[(0, (.int .i64 n38))]) w30 fun (s39 : Sl) w40 =>
                CallP P F_client_Client_settle [(.pointer x0), s39.v] w40 fun (v41 : Value) w42 =>
                TyP .bool v41 fun (b43 : Bool) =>
                ifB b43
                (∃ S44 : World → Prop, (S44 w42.drew) ∧
                HRun S44 (.int .i64) P (Instr.loadAt T_int (.pointer (some (Go.Addr.add a0 1)))) fun (n45 : Int) =>
                HRun S44 .sl P (Instr.loadAt T_sl_int (.pointer (some ((a2.add 84).add 3)))) fun (s46 : Sl) =>
                HRun S44 (.int .i64) P (Instr.loadAt T_int (.pointer (some (Go.Addr.add a0 1)))) fun (n47 : Int) =>
                HRun S44 .addr P (Instr.indexAt T_sl_int s46.v (.int .i64 n47)) fun (a48 : Addr) =>
                HRun S44 (.int .i64) P (Instr.loadAt T_int (.pointer (some a48))) fun (n49 : Int) =>
                CallP P F_client_Client_ask [(.pointer x0), (.agg #[(.int .i64 6), (.int .i64 0), (.int .i64 0), (.int .i64 0), (.int .i64 0), (.int .i64 0), (.int .i64 0), (.int .i64 0), (.int .i64 0), (.int .i64 0), (.int .i64 0), (.int .i64 0), (.bool false), (.slice none 0 0), (.slice none 0 0), (.int .i64 0), (.int .i64 0), (.int .i64 0), (.int .i64 0), (.int .i64 0), (.int .i64 0), (.int .i64 0), (.int .i64 0), (.int .i64 0), (.bool false), (.int .i64 0), (.int .i64 0), (.int .i64 0), (.int .i64 0), (.slice none 0 0), (.int .i64 0), (.int .i64 0), (.int .i64 0), (.int .i64 0), (.int .i64 0), (.slice none 0 0), (.int .i64 0), (.int .i64 0), (.int .u64 0), (.int .i64 0), (.int .i64 0), (.bool false), (.bool false), (.bool false), (.slice none 0 0), (.int .i64 n45), (.int .i64 n49), (.int .i64 0), (.int .i64 0), (.int .u64 0), (.int .i64 0), (.bool false), (.int .i64 0), (.int .i64 0), (.int .i64 0), (.slice none 0 0), (.slice none 0 0), (.slice none 0 0), (.int .i64 0)])] w42.drew fun (v50 : Value) w51 =>
                TupP [] v50 fun (t52 : Unit) =>
                (S44 w51) ∧
                R (.tuple #[]) w51)
                (R (.tuple #[]) w42))
              (ifB (n37 == 1)
               (nilCk x0 fun (a53 : Addr) =>
                RunQ (.int .i64) P (Instr.loadAt T_int (.pointer (some ((a53.add 2).add 1)))) w30 fun (n54 : Int) =>
                CallP P F_client_Client_prepare [(.pointer x0), (.int .i64 (IntKind.i64.wrap (n54 + 1)))] w30 fun (v55 : Value) w56 =>
                TyP .bool v55 fun (b57 : Bool) =>
                ifB b57
                (∃ S58 : World → Prop, (S58 w56.drew) ∧
                HRun S58 (.int .i64) P (Instr.loadAt T_int (.pointer (some (Go.Addr.add a0 2)))) fun (n59 : Int) =>
                HRun S58 .sl P (Instr.loadAt T_sl_string (.pointer (some ((a2.add 84).add 9)))) fun (s60 : Sl) =>
                CallP P F_client_Client_send [(.pointer x0), (.int .i64 n59), s60.v] w56.drew fun (v61 : Value) w62 =>
                TupP [] v61 fun (t63 : Unit) =>
                (S58 w62) ∧
                R (.tuple #[]) w62)
                (R (.tuple #[]) w56))
               (ifB (n37 == 2)
                (∃ S64 : World → Prop, (S64 w30.drew) ∧
                HRun S64 (.int .i64) P (Instr.loadAt T_int (.pointer (some ((a2.add 84).add 1)))) fun (n65 : Int) =>
                HRun S64 (.int .i64) P (Instr.loadAt T_int (.pointer (some (Go.Addr.add a0 1)))) fun (n66 : Int) =>
                HRun S64 (.int .i64) P (Instr.loadAt T_int (.pointer (some ((a2.add 84).add 8)))) fun (n67 : Int) =>
                nilCk x0 fun (a68 : Addr) =>
                HRun S64 (.int .u64) P (Instr.loadAt T_uint64 (.pointer (some ((a68.add 77).add 1)))) fun (n69 : Int) =>
                nilCk x0 fun (a70 : Addr) =>
                HRun S64 (.int .i64) P (Instr.loadAt T_int (.pointer (some ((a70.add 77).add 2)))) fun (n71 : Int) =>
                nilCk x0 fun (a72 : Addr) =>
                HRun S64 (.int .u64) P (Instr.loadAt T_uint64 (.pointer (some ((a72.add 77).add 1)))) fun (n73 : Int) =>
                nilCk x0 fun (a74 : Addr) =>
                HRun S64 (.int .i64) P (Instr.loadAt T_int (.pointer (some ((a74.add 77).add 2)))) fun (n75 : Int) =>
                nilCk x0 fun (a76 : Addr) =>
                HRun S64 .sl P (Instr.loadAt T_sl_int (.pointer (some ((a76.add 77).add 6)))) fun (s77 : Sl) =>
                nilCk x0 fun (a78 : Addr) =>
                HRun S64 (.int .i64) P (Instr.loadAt T_int (.pointer (some ((a78.add 2).add 1)))) fun (n79 : Int) =>
                HRun S64 .addr P (Instr.indexAt T_sl_int s77.v (.int .i64 (IntKind.i64.wrap (n79 + 1)))) fun (a80 : Addr) =>
                HRun S64 (.int .i64) P (Instr.loadAt T_int (.pointer (some a80))) fun (n81 : Int) =>
                RunK .sl P (Instr.buildSlice T_sl_sl_uint8 1 #[(0, (.slice none 0 0))]) w30.drew fun (s82 : Sl) w83 =>
                (S64 w83) ∧
                HRun S64 .val P (Instr.build T_api_Msg #[(0, (.int .i64 13)), (18, (.int .i64 n65)), (10, (.int .i64 n66)), (11, (.int .i64 n67)), (14, (.int .u64 n69)), (15, (.int .i64 n71)), (9, (.agg #[(.int .i64 0), (.int .i64 0), (.int .u64 n73), (.int .i64 n75), (.int .i64 n81), (.bool true), (.bool false), (.bool false), s82.v]))]) fun (v84 : Value) =>
                CallP P F_client_Client_ask [(.pointer x0), v84] w83 fun (v85 : Value) w86 =>
                TupP [] v85 fun (t87 : Unit) =>
                (S64 w86) ∧
                R (.tuple #[]) w86)
                (CallP P F_client_Client_end [(.pointer x0), (.bool true)] w30 fun (v88 : Value) w89 =>
                TupP [] v88 fun (t90 : Unit) =>
                ∃ S91 : World → Prop, (S91 w89.drew) ∧
                HRun S91 .sl P (Instr.loadAt T_sl_int (.pointer (some ((a2.add 84).add 3)))) fun (s92 : Sl) =>
                HRun S91 (.int .i64) P (Instr.loadAt T_int (.pointer (some (Go.Addr.add a0 1)))) fun (n93 : Int) =>
                HRun S91 .addr P (Instr.indexAt T_sl_int s92.v (.int .i64 n93)) fun (a94 : Addr) =>
                StoreP P T_int (.pointer (some a94)) (.int .i64 (-1)) w89.drew fun w95 =>
                (S91 w95) ∧
                R (.tuple #[]) w95))))
def an_client_Client_copy : Ann := ⟨[(6, []), (5, [])], [], []⟩
theorem e_client_Client_copy (R : Value → World → Prop) (x0 : Option Addr) (x1 : Value) (w : World) : denF P an_client_Client_copy Try.f68 [.pointer x0, x1] w R = S_client_Client_copy R x0 x1 w := by kernel_rfl
theorem c_client_Client_copy {R : Value → World → Prop} {x0 : Option Addr} {x1 : Value} {w : World} (h : S_client_Client_copy R x0 x1 w) : CallP P F_client_Client_copy [.pointer x0, x1] w R := calls_of_denF (an := an_client_Client_copy) Try.func68 (by rw [e_client_Client_copy]; exact h)


/-- penstock/client.owned -/
def S_client_owned (R : Value → World → Prop) (x0 : Sl) (x1 : Int) (x2 : Int) (w : World) : Prop :=
 LoopP (T := Sl × Int × Unit) (some (⟨none, 0, 0⟩, (0, ()))) w fun next0 t1 w2 =>
 ifB (decide (t1.snd.fst < x1))
  (CallP P F_group_Owner [x0.v, (.int .i64 t1.snd.fst)] w2 fun (v3 : Value) w4 =>
   TyP (.int .i64) v3 fun (n5 : Int) =>
    ifB (n5 == x2)
     (RunK .sl P (Instr.buildSlice T_sl_int 1 #[(0, (.int .i64 t1.snd.fst))]) w4 fun (s6 : Sl) w7 =>
      RunK .sl P (Builtin.append_ #[T_sl_int, T_sl_int] T_sl_int #[t1.fst.v, s6.v]) w7 fun (s8 : Sl) w9 =>
       next0 (some (s8, ((IntKind.i64.wrap (t1.snd.fst + 1)), ()))) w9)
     (next0 (some (t1.fst, ((IntKind.i64.wrap (t1.snd.fst + 1)), ()))) w4))
  (R t1.fst.v w2)
def an_client_owned : Ann := ⟨[], [(3, [(7, .sl), (10, (.int .i64))])], []⟩
theorem e_client_owned (R : Value → World → Prop) (x0 : Sl) (x1 : Int) (x2 : Int) (w : World) : denF P an_client_owned Try.f71 [x0.v, .int .i64 x1, .int .i64 x2] w R = S_client_owned R x0 x1 x2 w := by kernel_rfl
theorem c_client_owned {R : Value → World → Prop} {x0 : Sl} {x1 : Int} {x2 : Int} {w : World} (h : S_client_owned R x0 x1 x2 w) : CallP P F_client_owned [x0.v, .int .i64 x1, .int .i64 x2] w R := calls_of_denF (an := an_client_owned) Try.func71 (by rw [e_client_owned]; exact h)


/-- (*penstock/client.Client).read -/
def S_client_Client_read (R : Value → World → Prop) (x0 : Option Addr) (x1 : Value) (w : World) : Prop :=
 RunK .addr P (Instr.box T_api_Msg x1) w fun (a0 : Addr) w1 =>
 ∃ S2 : World → Prop, (S2 w1.drew) ∧
   nilCk x0 fun (a3 : Addr) =>
    nilCk x0 fun (a4 : Addr) =>
     HRun S2 .sl P (Instr.loadAt T_sl_api_Op (.pointer (some (a4.add 6)))) fun (s5 : Sl) =>
      nilCk x0 fun (a6 : Addr) =>
       HRun S2 (.int .i64) P (Instr.loadAt T_int (.pointer (some (a6.add 8)))) fun (n7 : Int) =>
        HRun S2 .addr P (Instr.indexAt T_sl_api_Op s5.v (.int .i64 n7)) fun (a8 : Addr) =>
         HRun S2 .val P (Instr.loadAt T_api_Op (.pointer (some a8))) fun (v9 : Value) =>
          RunK .addr P (Instr.alloc T_api_Op true (.tuple #[])) w1.drew fun (a10 : Addr) w11 =>
           (S2 w11) ∧
            StoreP P T_api_Op (.pointer (some a10)) v9 w11 fun w12 =>
             (S2 w12) ∧
              nilCk x0 fun (a13 : Addr) =>
               RunQ (.int .i64) P (Instr.loadAt T_int (.pointer (some ((a13.add 13).add 45)))) w12 fun (n14 : Int) =>
                RunQ .sl P (Instr.loadAt T_sl_int (.pointer (some ((a3.add 84).add 3)))) w12 fun (s15 : Sl) =>
                RunQ .addr P (Instr.indexAt T_sl_int s15.v (.int .i64 n14)) w12 fun (a16 : Addr) =>
                RunQ (.int .i64) P (Instr.loadAt T_int (.pointer (some a16))) w12 fun (n17 : Int) =>
                JoinP (T := Int × Int × Sl × Unit) (fun J18 =>
                RunQ .sl P (Instr.loadAt T_sl_api_Batch (.pointer (some (Go.Addr.add a0 56)))) w12 fun (s21 : Sl) =>
                LoopP (T := Int × Int × Sl × Int × Unit) (some (n17, (0, (⟨none, 0, 0⟩, (0, ()))))) w12 fun next22 t23 w24 =>
                ifB (decide (t23.snd.snd.snd.fst < (↑s21.len : Int)))
                (RunQ .addr P (Instr.indexAt T_sl_api_Batch s21.v (.int .i64 t23.snd.snd.snd.fst)) w24 fun (a25 : Addr) =>
                RunQ .val P (Instr.loadAt T_api_Batch (.pointer (some a25))) w24 fun (v26 : Value) =>
                RunK .addr P (Instr.alloc T_api_Batch true (.tuple #[])) w24 fun (a27 : Addr) w28 =>
                StoreP P T_api_Batch (.pointer (some a27)) v26 w28 fun w29 =>
                JoinP (T := Int × Unit) (fun J30 =>
                RunQ .bool P (Instr.loadAt T_bool (.pointer (some (Go.Addr.add a27 6)))) w29 fun (b33 : Bool) =>
                ifB b33
                (RunQ .sl P (Instr.loadAt T_sl_sl_uint8 (.pointer (some (Go.Addr.add a27 8)))) w29 fun (s34 : Sl) =>
                RunQ (.int .i64) P (Instr.loadAt T_int (.pointer (some (Go.Addr.add a27 0)))) w29 fun (n35 : Int) =>
                next22 (some ((if IntKind.i64.wrap (n35 + if 1 > (↑s34.len : Int) then 1 else (↑s34.len : Int)) > t23.fst then IntKind.i64.wrap (n35 + if 1 > (↑s34.len : Int) then 1 else (↑s34.len : Int)) else t23.fst), (t23.snd.fst, (t23.snd.snd.fst, ((IntKind.i64.wrap (t23.snd.snd.snd.fst + 1)), ()))))) w29)
                (RunQ .val P (Instr.loadAt T_api_Batch (.pointer (some a27))) w29 fun (v36 : Value) =>
                RunQ .sl P (Instr.loadAt T_sl_api_Abort (.pointer (some (Go.Addr.add a0 57)))) w29 fun (s37 : Sl) =>
                CallP P F_client_aborted [v36, s37.v] w29 fun (v38 : Value) w39 =>
                TyP .bool v38 fun (b40 : Bool) =>
                ifB b40
                (RunQ .sl P (Instr.loadAt T_sl_sl_uint8 (.pointer (some (Go.Addr.add a27 8)))) w39 fun (s41 : Sl) =>
                RunQ (.int .i64) P (Instr.loadAt T_int (.pointer (some (Go.Addr.add a27 0)))) w39 fun (n42 : Int) =>
                next22 (some ((if IntKind.i64.wrap (n42 + if 1 > (↑s41.len : Int) then 1 else (↑s41.len : Int)) > t23.fst then IntKind.i64.wrap (n42 + if 1 > (↑s41.len : Int) then 1 else (↑s41.len : Int)) else t23.fst), (t23.snd.fst, (t23.snd.snd.fst, ((IntKind.i64.wrap (t23.snd.snd.snd.fst + 1)), ()))))) w39)
                (J30 (some (t23.fst, ())) w39)))
                fun t31 w32 =>
                RunQ .sl P (Instr.loadAt T_sl_sl_uint8 (.pointer (some (Go.Addr.add a27 8)))) w32 fun (s43 : Sl) =>
                LoopP (T := Int × Int × Sl × Int × Unit) (some (t31.fst, (t23.snd.fst, (t23.snd.snd.fst, (0, ()))))) w32 fun next44 t45 w46 =>
                ifB (decide (t45.snd.snd.snd.fst < (↑s43.len : Int)))
                (RunQ .addr P (Instr.indexAt T_sl_sl_uint8 s43.v (.int .i64 t45.snd.snd.snd.fst)) w46 fun (a47 : Addr) =>
                RunQ .sl P (Instr.loadAt T_sl_uint8 (.pointer (some a47))) w46 fun (s48 : Sl) =>
                JoinP (T := Unit) (fun J49 =>
                RunQ (.int .i64) P (Instr.loadAt T_int (.pointer (some (Go.Addr.add a27 0)))) w46.drew fun (n52 : Int) =>
                ifB (decide (IntKind.i64.wrap (n52 + t45.snd.snd.snd.fst) < t45.fst))
                (next44 (some (t45.fst, (t45.snd.fst, (t45.snd.snd.fst, ((IntKind.i64.wrap (t45.snd.snd.snd.fst + 1)), ()))))) w46.drew)
                (RunQ (.int .i64) P (Instr.loadAt T_int (.pointer (some (Go.Addr.add a10 0)))) w46.drew fun (n53 : Int) =>
                ifB (n53 == 5)
                (RunQ (.int .i64) P (Instr.loadAt T_int (.pointer (some (Go.Addr.add a10 3)))) w46.drew fun (n54 : Int) =>
                ifB (decide (t45.snd.fst ≥ n54))
                (next44 (some (t45.fst, (t45.snd.fst, (t45.snd.snd.fst, ((IntKind.i64.wrap (t45.snd.snd.snd.fst + 1)), ()))))) w46.drew)
                (RunQ (.int .i64) P (Instr.loadAt T_int (.pointer (some (Go.Addr.add a10 0)))) w46.drew fun (n55 : Int) =>
                ifB (n55 == 4)
                (RunQ (.int .i64) P (Instr.loadAt T_int (.pointer (some ((a3.add 84).add 7)))) w46.drew fun (n56 : Int) =>
                RunQ (.int .i64) P (Instr.loadAt T_int (.pointer (some (Go.Addr.add a10 3)))) w46.drew fun (n57 : Int) =>
                ifB (decide (IntKind.i64.wrap (n56 + t45.snd.fst) ≥ n57))
                (next44 (some (t45.fst, (t45.snd.fst, (t45.snd.snd.fst, ((IntKind.i64.wrap (t45.snd.snd.snd.fst + 1)), ()))))) w46.drew)
                (J49 (some ()) w46.drew))
                (J49 (some ()) w46.drew)))
                (RunQ (.int .i64) P (Instr.loadAt T_int (.pointer (some (Go.Addr.add a10 0)))) w46.drew fun (n58 : Int) =>
                ifB (n58 == 4)
                (RunQ (.int .i64) P (Instr.loadAt T_int (.pointer (some ((a3.add 84).add 7)))) w46.drew fun (n59 : Int) =>
                RunQ (.int .i64) P (Instr.loadAt T_int (.pointer (some (Go.Addr.add a10 3)))) w46.drew fun (n60 : Int) =>
                ifB (decide (IntKind.i64.wrap (n59 + t45.snd.fst) ≥ n60))
                (next44 (some (t45.fst, (t45.snd.fst, (t45.snd.snd.fst, ((IntKind.i64.wrap (t45.snd.snd.snd.fst + 1)), ()))))) w46.drew)
                (J49 (some ()) w46.drew))
                (J49 (some ()) w46.drew))))
                fun t50 w51 =>
                RunQ (.int .i64) P (Instr.loadAt T_int (.pointer (some (Go.Addr.add a27 0)))) w51 fun (n61 : Int) =>
                RunK .str P (convert T_sl_uint8 T_string s48.v) w51 fun (t62 : ByteArray) w63 =>
                RunK .sl P (Instr.buildSlice T_sl_string 1 #[(0, (.string t62))]) w63 fun (s64 : Sl) w65 =>
                RunK .sl P (Builtin.append_ #[T_sl_string, T_sl_string] T_sl_string #[t45.snd.snd.fst.v, s64.v]) w65 fun (s66 : Sl) w67 =>
                RunQ (.int .i64) P (Instr.loadAt T_int (.pointer (some (Go.Addr.add a10 0)))) w67 fun (n68 : Int) =>
                ifB (n68 == 4)
                (RunQ (.int .i64) P (Instr.loadAt T_int (.pointer (some (Go.Addr.add a27 0)))) w67 fun (n69 : Int) =>
                RunK .str P (convert T_sl_uint8 T_string s48.v) w67 fun (t70 : ByteArray) w71 =>
                CallP P F_client_Client_tell [(.pointer x0), (.agg #[(.int .i64 5), (.int .i64 0), (.int .i64 0), (.int .i64 n14), (.int .i64 (IntKind.i64.wrap (n69 + t45.snd.snd.snd.fst))), (.string t70), (.int .i64 0)])] w71 fun (v72 : Value) w73 =>
                TupP [] v72 fun (t74 : Unit) =>
                next44 (some ((IntKind.i64.wrap (IntKind.i64.wrap (n61 + t45.snd.snd.snd.fst) + 1)), ((IntKind.i64.wrap (t45.snd.fst + 1)), (s66, ((IntKind.i64.wrap (t45.snd.snd.snd.fst + 1)), ()))))) w73)
                (next44 (some ((IntKind.i64.wrap (IntKind.i64.wrap (n61 + t45.snd.snd.snd.fst) + 1)), ((IntKind.i64.wrap (t45.snd.fst + 1)), (s66, ((IntKind.i64.wrap (t45.snd.snd.snd.fst + 1)), ()))))) w67))
                (RunQ (.int .i64) P (Instr.loadAt T_int (.pointer (some (Go.Addr.add a27 0)))) w46 fun (n75 : Int) =>
                RunQ .sl P (Instr.loadAt T_sl_sl_uint8 (.pointer (some (Go.Addr.add a27 8)))) w46 fun (s76 : Sl) =>
                ifB (decide (t45.fst < IntKind.i64.wrap (n75 + (↑s76.len : Int))))
                (J18 (some (t45.fst, (t45.snd.fst, (t45.snd.snd.fst, ())))) w46)
                (next22 (some (t45.fst, (t45.snd.fst, (t45.snd.snd.fst, ((IntKind.i64.wrap (t23.snd.snd.snd.fst + 1)), ()))))) w46)))
                (J18 (some (t23.fst, (t23.snd.fst, (t23.snd.snd.fst, ())))) w24))
                fun t19 w20 =>
                RunQ (.int .i64) P (Instr.loadAt T_int (.pointer (some (Go.Addr.add a10 0)))) w20 fun (n77 : Int) =>
                ifB (n77 == 5)
                (CallP P F_client_Client_copied [(.pointer x0), (.int .i64 t19.fst), t19.snd.snd.fst.v] w20 fun (v78 : Value) w79 =>
                TupP [] v78 fun (t80 : Unit) =>
                R (.tuple #[]) w79)
                (RunQ (.int .i64) P (Instr.loadAt T_int (.pointer (some ((a3.add 84).add 5)))) w20 fun (n81 : Int) =>
                StoreP P T_int (.pointer (some ((a3.add 84).add 5))) (.int .i64 (IntKind.i64.wrap (n81 + 1))) w20 fun w82 =>
                RunQ (.int .i64) P (Instr.loadAt T_int (.pointer (some ((a3.add 84).add 7)))) w82 fun (n83 : Int) =>
                StoreP P T_int (.pointer (some ((a3.add 84).add 7))) (.int .i64 (IntKind.i64.wrap (n83 + t19.snd.fst))) w82 fun w84 =>
                RunQ (.int .i64) P (Instr.loadAt T_int (.pointer (some ((a3.add 84).add 6)))) w84 fun (n85 : Int) =>
                StoreP P T_int (.pointer (some ((a3.add 84).add 6))) (.int .i64 (IntKind.i64.wrap (n85 + 1))) w84 fun w86 =>
                JoinP (T := Unit) (fun J87 =>
                ifB (decide (t19.snd.fst > 0))
                (StoreP P T_int (.pointer (some ((a3.add 84).add 6))) (.int .i64 0) w86 fun w90 =>
                J87 (some ()) w90)
                (RunQ .sl P (Instr.loadAt T_sl_int (.pointer (some ((a3.add 84).add 3)))) w86 fun (s91 : Sl) =>
                RunQ .addr P (Instr.indexAt T_sl_int s91.v (.int .i64 n14)) w86 fun (a92 : Addr) =>
                RunQ (.int .i64) P (Instr.loadAt T_int (.pointer (some a92))) w86 fun (n93 : Int) =>
                ifB (decide (t19.fst > n93))
                (StoreP P T_int (.pointer (some ((a3.add 84).add 6))) (.int .i64 0) w86 fun w94 =>
                J87 (some ()) w94)
                (J87 (some ()) w86)))
                fun t88 w89 =>
                RunQ .sl P (Instr.loadAt T_sl_int (.pointer (some ((a3.add 84).add 3)))) w89 fun (s95 : Sl) =>
                RunQ .addr P (Instr.indexAt T_sl_int s95.v (.int .i64 n14)) w89 fun (a96 : Addr) =>
                StoreP P T_int (.pointer (some a96)) (.int .i64 t19.fst) w89 fun w97 =>
                R (.tuple #[]) w97)
def an_client_Client_read : Ann := ⟨[(15, []), (11, [(8, (.int .i64))]), (30, []), (23, [(8, (.int .i64)), (9, (.int .i64)), (7, .sl)])], [(12, [(8, (.int .i64)), (9, (.int .i64)), (7, .sl), (69, (.int .i64))]), (6, [(8, (.int .i64)), (9, (.int .i64)), (7, .sl), (43, (.int .i64))])], []⟩
theorem e_client_Client_read (R : Value → World → Prop) (x0 : Option Addr) (x1 : Value) (w : World) : denF P an_client_Client_read Try.f72 [.pointer x0, x1] w R = S_client_Client_read R x0 x1 w := by kernel_rfl
theorem c_client_Client_read {R : Value → World → Prop} {x0 : Option Addr} {x1 : Value} {w : World} (h : S_client_Client_read R x0 x1 w) : CallP P F_client_Client_read [.pointer x0, x1] w R := calls_of_denF (an := an_client_Client_read) Try.func72 (by rw [e_client_Client_read]; exact h)


/-- penstock/group.Owner -/
def S_group_Owner (R : Value → World → Prop) (x0 : Sl) (x1 : Int) (w : World) : Prop :=
 JoinP (T := Unit) (fun J0 =>
 ifB ((↑x0.len : Int) == 0)
  (R (.int .i64 (-1)) w)
  (ifB (decide (x1 < 0))
   (R (.int .i64 (-1)) w)
   (J0 (some ()) w)))
 fun t1 w2 =>
 RunK (.int .i64) P (do (eqGuard .rem T_int (.tmp 0) (.tmp 0) (.int .i64 x1) (.int .i64 ((↑x0.len : Int)))); (binOp .rem T_int (.int .i64 x1) (.int .i64 ((↑x0.len : Int))))) w2 fun (n3 : Int) w4 =>
  RunQ .addr P (Instr.indexAt T_sl_int x0.v (.int .i64 n3)) w4 fun (a5 : Addr) =>
   RunQ (.int .i64) P (Instr.loadAt T_int (.pointer (some a5))) w4 fun (n6 : Int) =>
    R (.int .i64 n6) w4
def an_group_Owner : Ann := ⟨[(3, [])], [], []⟩
theorem e_group_Owner (R : Value → World → Prop) (x0 : Sl) (x1 : Int) (w : World) : denF P an_group_Owner Try.f79 [x0.v, .int .i64 x1] w R = S_group_Owner R x0 x1 w := by kernel_rfl
theorem c_group_Owner {R : Value → World → Prop} {x0 : Sl} {x1 : Int} {w : World} (h : S_group_Owner R x0 x1 w) : CallP P F_group_Owner [x0.v, .int .i64 x1] w R := calls_of_denF (an := an_group_Owner) Try.func79 (by rw [e_group_Owner]; exact h)


/-- penstock/client.aborted -/
def S_client_aborted (R : Value → World → Prop) (x0 : Value) (x1 : Sl) (w : World) : Prop :=
 RunK .addr P (Instr.box T_api_Batch x0) w fun (a0 : Addr) w1 =>
 CallP P F_slices_ContainsFunc_api_Abort_api_Abort [x1.v, (.func (Go.Fn.func 84) #[] #[(.pointer (some a0))])] w1 fun (v2 : Value) w3 =>
  TyP .bool v2 fun (b4 : Bool) =>
   R (.bool b4) w3
def an_client_aborted : Ann := ⟨[], [], []⟩
theorem e_client_aborted (R : Value → World → Prop) (x0 : Value) (x1 : Sl) (w : World) : denF P an_client_aborted Try.f80 [x0, x1.v] w R = S_client_aborted R x0 x1 w := by kernel_rfl
theorem c_client_aborted {R : Value → World → Prop} {x0 : Value} {x1 : Sl} {w : World} (h : S_client_aborted R x0 x1 w) : CallP P F_client_aborted [x0, x1.v] w R := calls_of_denF (an := an_client_aborted) Try.func80 (by rw [e_client_aborted]; exact h)


/-- (*penstock/client.Client).copied -/
def S_client_Client_copied (R : Value → World → Prop) (x0 : Option Addr) (x1 : Int) (x2 : Sl) (w : World) : Prop :=
 nilCk x0 fun (a0 : Addr) =>
 ifB ((↑x2.len : Int) == 0)
  (∃ S1 : World → Prop, (S1 w.drew) ∧
    HRun S1 .sl P (Instr.loadAt T_sl_int (.pointer (some ((a0.add 84).add 3)))) fun (s2 : Sl) =>
     nilCk x0 fun (a3 : Addr) =>
      HRun S1 (.int .i64) P (Instr.loadAt T_int (.pointer (some ((a3.add 13).add 45)))) fun (n4 : Int) =>
       HRun S1 .addr P (Instr.indexAt T_sl_int s2.v (.int .i64 n4)) fun (a5 : Addr) =>
        StoreP P T_int (.pointer (some a5)) (.int .i64 (-1)) w.drew fun w6 =>
         (S1 w6) ∧
          StoreP P T_int (.pointer (some ((a0.add 84).add 10))) (.int .i64 0) w6 fun w7 =>
           nilCk x0 fun (a8 : Addr) =>
            RunQ (.int .i64) P (Instr.loadAt T_int (.pointer (some (a8.add 8)))) w7 fun (n9 : Int) =>
             nilCk x0 fun (a10 : Addr) =>
              StoreP P T_int (.pointer (some (a10.add 8))) (.int .i64 (IntKind.i64.wrap (n9 + 1))) w7 fun w11 =>
               R (.tuple #[]) w11)
  (StoreP P T_int (.pointer (some ((a0.add 84).add 8))) (.int .i64 x1) w fun w12 =>
   StoreP P T_sl_string (.pointer (some ((a0.add 84).add 9))) x2.v w12 fun w13 =>
    StoreP P T_int (.pointer (some ((a0.add 84).add 10))) (.int .i64 1) w13 fun w14 =>
     R (.tuple #[]) w14)
def an_client_Client_copied : Ann := ⟨[], [], []⟩
theorem e_client_Client_copied (R : Value → World → Prop) (x0 : Option Addr) (x1 : Int) (x2 : Sl) (w : World) : denF P an_client_Client_copied Try.f81 [.pointer x0, .int .i64 x1, x2.v] w R = S_client_Client_copied R x0 x1 x2 w := by kernel_rfl
theorem c_client_Client_copied {R : Value → World → Prop} {x0 : Option Addr} {x1 : Int} {x2 : Sl} {w : World} (h : S_client_Client_copied R x0 x1 x2 w) : CallP P F_client_Client_copied [.pointer x0, .int .i64 x1, x2.v] w R := calls_of_denF (an := an_client_Client_copied) Try.func81 (by rw [e_client_Client_copied]; exact h)


/-- slices.Index[[]int,int] -/
def S_slices_Index_int_int (R : Value → World → Prop) (x0 : Sl) (x1 : Int) (w : World) : Prop :=
 LoopP (T := Int × Unit) (some (0, ())) w fun next0 t1 w2 =>
 ifB (decide (t1.fst < (↑x0.len : Int)))
  (RunQ .addr P (Instr.indexAt T_sl_int x0.v (.int .i64 t1.fst)) w2 fun (a3 : Addr) =>
   RunQ (.int .i64) P (Instr.loadAt T_int (.pointer (some a3))) w2 fun (n4 : Int) =>
    ifB (x1 == n4)
     (R (.int .i64 t1.fst) w2)
     (next0 (some ((IntKind.i64.wrap (t1.fst + 1)), ())) w2))
  (R (.int .i64 (-1)) w2)
def an_slices_Index_int_int : Ann := ⟨[], [(2, [(8, (.int .i64))])], []⟩
theorem e_slices_Index_int_int (R : Value → World → Prop) (x0 : Sl) (x1 : Int) (w : World) : denF P an_slices_Index_int_int Try.f82 [x0.v, .int .i64 x1] w R = S_slices_Index_int_int R x0 x1 w := by kernel_rfl
theorem c_slices_Index_int_int {R : Value → World → Prop} {x0 : Sl} {x1 : Int} {w : World} (h : S_slices_Index_int_int R x0 x1 w) : CallP P F_slices_Index_int_int [x0.v, .int .i64 x1] w R := calls_of_denF (an := an_slices_Index_int_int) Try.func82 (by rw [e_slices_Index_int_int]; exact h)

end Go.Proofs.Ytajhdjjmhfbhgaa
