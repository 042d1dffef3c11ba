/- The functions of the program as predicates over worlds, written by a program of mine (PkPrint); each is held against the code by the kernel. -/
import Derived.Test.YtfbffgcoopelfaaN
namespace Go.Proofs.Ytfbffgcoopelfaa
open Go Go.Pk
/-- (*penstock/raft.Raft).Step -/
def S_raft_Raft_Step (R : Value → World → Prop) (x0 : Option Addr) (x1 : Value) (w : World) : Prop :=
 RunK .addr P (Instr.box T_api_RMsg x1) w fun (a0 : Addr) w1 =>
 JoinP (T := Unit) (fun J2 =>
  ifB (Option.isNone x0)
   (R (.tuple #[]) w1.drew)
   (RunQ (.int .i64) P (Instr.loadAt T_int (.pointer (some (Go.Addr.add a0 2)))) w1.drew fun (n5 : Int) =>
    nilCk x0 fun (a6 : Addr) =>
     RunQ (.int .i64) P (Instr.loadAt T_int (.pointer (some (a6.add 0)))) w1.drew fun (n7 : Int) =>
      ifB (n5 != n7)
       (R (.tuple #[]) w1.drew)
       (RunQ (.int .i64) P (Instr.loadAt T_int (.pointer (some (Go.Addr.add a0 1)))) w1.drew fun (n8 : Int) =>
        ifB (decide (n8 < 0))
         (R (.tuple #[]) w1.drew)
         (RunQ (.int .i64) P (Instr.loadAt T_int (.pointer (some (Go.Addr.add a0 1)))) w1.drew fun (n9 : Int) =>
          nilCk x0 fun (a10 : Addr) =>
           RunQ (.int .i64) P (Instr.loadAt T_int (.pointer (some (a10.add 1)))) w1.drew fun (n11 : Int) =>
            ifB (decide (n9 ≥ n11))
             (R (.tuple #[]) w1.drew)
             (RunQ (.int .i64) P (Instr.loadAt T_int (.pointer (some (Go.Addr.add a0 1)))) w1.drew fun (n12 : Int) =>
              nilCk x0 fun (a13 : Addr) =>
               RunQ (.int .i64) P (Instr.loadAt T_int (.pointer (some (a13.add 0)))) w1.drew fun (n14 : Int) =>
                ifB (n12 == n14)
                (R (.tuple #[]) w1.drew)
                (RunQ (.int .i64) P (Instr.loadAt T_int (.pointer (some (Go.Addr.add a0 3)))) w1.drew fun (n15 : Int) =>
                ifB (decide (n15 < 0))
                (R (.tuple #[]) w1.drew)
                (J2 (some ()) w1.drew)))))))
  fun t3 w4 =>
  RunQ (.int .i64) P (Instr.loadAt T_int (.pointer (some (Go.Addr.add a0 0)))) w4 fun (n16 : Int) =>
   ifB (n16 == 1)
    (JoinP (T := Bool × Unit) (fun J17 =>
     ∃ S20 : World → Prop, (S20 w4.drew) ∧
       HRun S20 (.int .i64) P (Instr.loadAt T_int (.pointer (some (Go.Addr.add a0 3)))) fun (n21 : Int) =>
        nilCk x0 fun (a22 : Addr) =>
         HRun S20 (.int .i64) P (Instr.loadAt T_int (.pointer (some ((a22.add 2).add 0)))) fun (n23 : Int) =>
          ifB (decide (n21 > n23))
           (HRun S20 .val P (Instr.loadAt T_api_RMsg (.pointer (some a0))) fun (v24 : Value) =>
            CallP P F_raft_Raft_fresh [(.pointer x0), v24] w4.drew fun (v25 : Value) w26 =>
             TyP .bool v25 fun (b27 : Bool) =>
              (S20 w26) ∧
               ifB b27
                (nilCk x0 fun (a28 : Addr) =>
                HRun S20 (.int .i64) P (Instr.loadAt T_int (.pointer (some (a28.add 8)))) fun (n29 : Int) =>
                ifB (n29 != 3)
                (nilCk x0 fun (a30 : Addr) =>
                HRun S20 (.int .i64) P (Instr.loadAt T_int (.pointer (some (a30.add 9)))) fun (n31 : Int) =>
                ifB (decide (n31 < 0))
                (J17 (some (true, ())) w26)
                (nilCk x0 fun (a32 : Addr) =>
                HRun S20 (.int .i64) P (Instr.loadAt T_int (.pointer (some (a32.add 12)))) fun (n33 : Int) =>
                J17 (some ((decide (n33 ≥ 4)), ())) w26))
                (J17 (some (false, ())) w26))
                (J17 (some (false, ())) w26))
           (J17 (some (false, ())) w4.drew))
     fun t18 w19 =>
     RunQ (.int .i64) P (Instr.loadAt T_int (.pointer (some (Go.Addr.add a0 3)))) w19 fun (n34 : Int) =>
      JoinP (T := Int × Unit) (fun J35 =>
       ifB (!t18.fst)
        (nilCk x0 fun (a38 : Addr) =>
         RunQ (.int .i64) P (Instr.loadAt T_int (.pointer (some ((a38.add 2).add 0)))) w19 fun (n39 : Int) =>
          J35 (some (n39, ())) w19)
        (J35 (some (n34, ())) w19))
       fun t36 w37 =>
       RunQ (.int .i64) P (Instr.loadAt T_int (.pointer (some (Go.Addr.add a0 1)))) w37 fun (n40 : Int) =>
        CallP P F_raft_Raft_send [(.pointer x0), (.agg #[(.int .i64 2), (.int .i64 0), (.int .i64 n40), (.int .i64 t36.fst), (.int .i64 0), (.int .i64 0), (.int .i64 0), (.bool (!t18.fst)), (.slice none 0 0), (.slice none 0 0)])] w37 fun (v41 : Value) w42 =>
         TupP [] v41 fun (t43 : Unit) =>
          R (.tuple #[]) w42)
    (ifB (n16 == 2)
     (RunQ .val P (Instr.loadAt T_api_RMsg (.pointer (some a0))) w4 fun (v44 : Value) =>
      CallP P F_raft_Raft_prevoted [(.pointer x0), v44] w4 fun (v45 : Value) w46 =>
       TupP [] v45 fun (t47 : Unit) =>
        R (.tuple #[]) w46)
     (JoinP (T := Unit) (fun J48 =>
      RunQ (.int .i64) P (Instr.loadAt T_int (.pointer (some (Go.Addr.add a0 3)))) w4.drew fun (n51 : Int) =>
       nilCk x0 fun (a52 : Addr) =>
        RunQ (.int .i64) P (Instr.loadAt T_int (.pointer (some ((a52.add 2).add 0)))) w4.drew fun (n53 : Int) =>
         ifB (decide (n51 > n53))
          (RunQ (.int .i64) P (Instr.loadAt T_int (.pointer (some (Go.Addr.add a0 3)))) w4.drew fun (n54 : Int) =>
           CallP P F_raft_Raft_follow [(.pointer x0), (.int .i64 n54), (.int .i64 (-1))] w4.drew fun (v55 : Value) w56 =>
            TupP [] v55 fun (t57 : Unit) =>
             J48 (some ()) w56)
          (J48 (some ()) w4.drew))
      fun t49 w50 =>
      RunQ (.int .i64) P (Instr.loadAt T_int (.pointer (some (Go.Addr.add a0 3)))) w50.drew fun (n58 : Int) =>
       nilCk x0 fun (a59 : Addr) =>
        RunQ (.int .i64) P (Instr.loadAt T_int (.pointer (some ((a59.add 2).add 0)))) w50.drew fun (n60 : Int) =>
         ifB (decide (n58 < n60))
          (RunQ (.int .i64) P (Instr.loadAt T_int (.pointer (some (Go.Addr.add a0 0)))) w50.drew fun (n61 : Int) =>
           ifB (n61 == 5)
            (∃ S62 : World → Prop, (S62 w50.drew.drew) ∧
              HRun S62 (.int .i64) P (Instr.loadAt T_int (.pointer (some (Go.Addr.add a0 1)))) fun (n63 : Int) =>
               nilCk x0 fun (a64 : Addr) =>
                HRun S62 (.int .i64) P (Instr.loadAt T_int (.pointer (some ((a64.add 2).add 0)))) fun (n65 : Int) =>
                CallP P F_raft_Raft_last [(.pointer x0)] w50.drew.drew fun (v66 : Value) w67 =>
                TyP (.int .i64) v66 fun (n68 : Int) =>
                (S62 w67) ∧
                CallP P F_raft_Raft_send [(.pointer x0), (.agg #[(.int .i64 6), (.int .i64 0), (.int .i64 n63), (.int .i64 n65), (.int .i64 n68), (.int .i64 0), (.int .i64 0), (.bool true), (.slice none 0 0), (.slice none 0 0)])] w67 fun (v69 : Value) w70 =>
                TupP [] v69 fun (t71 : Unit) =>
                (S62 w70) ∧
                R (.tuple #[]) w70)
            (RunQ (.int .i64) P (Instr.loadAt T_int (.pointer (some (Go.Addr.add a0 0)))) w50.drew fun (n72 : Int) =>
             ifB (n72 == 7)
              (∃ S73 : World → Prop, (S73 w50.drew.drew) ∧
                HRun S73 (.int .i64) P (Instr.loadAt T_int (.pointer (some (Go.Addr.add a0 1)))) fun (n74 : Int) =>
                nilCk x0 fun (a75 : Addr) =>
                HRun S73 (.int .i64) P (Instr.loadAt T_int (.pointer (some ((a75.add 2).add 0)))) fun (n76 : Int) =>
                CallP P F_raft_Raft_last [(.pointer x0)] w50.drew.drew fun (v77 : Value) w78 =>
                TyP (.int .i64) v77 fun (n79 : Int) =>
                (S73 w78) ∧
                CallP P F_raft_Raft_send [(.pointer x0), (.agg #[(.int .i64 6), (.int .i64 0), (.int .i64 n74), (.int .i64 n76), (.int .i64 n79), (.int .i64 0), (.int .i64 0), (.bool true), (.slice none 0 0), (.slice none 0 0)])] w78 fun (v80 : Value) w81 =>
                TupP [] v80 fun (t82 : Unit) =>
                (S73 w81) ∧
                R (.tuple #[]) w81)
              (R (.tuple #[]) w50.drew)))
          (RunQ .val P (Instr.loadAt T_api_RMsg (.pointer (some a0))) w50.drew fun (v83 : Value) =>
           CallP P F_raft_Raft_now [(.pointer x0), v83] w50.drew fun (v84 : Value) w85 =>
            TupP [] v84 fun (t86 : Unit) =>
             R (.tuple #[]) w85)))
def an_raft_Raft_Step : Ann := ⟨[(8, [(5, (.int .i64))]), (5, [(4, .bool)]), (13, []), (2, [])], [], []⟩
theorem e_raft_Raft_Step (R : Value → World → Prop) (x0 : Option Addr) (x1 : Value) (w : World) : denF P an_raft_Raft_Step Try.f20 [.pointer x0, x1] w R = S_raft_Raft_Step R x0 x1 w := by kernel_rfl
theorem c_raft_Raft_Step {R : Value → World → Prop} {x0 : Option Addr} {x1 : Value} {w : World} (h : S_raft_Raft_Step R x0 x1 w) : CallP P F_raft_Raft_Step [.pointer x0, x1] w R := calls_of_denF (an := an_raft_Raft_Step) Try.func20 (by rw [e_raft_Raft_Step]; exact h)


/-- (*penstock/raft.Raft).Compact -/
def S_raft_Raft_Compact (R : Value → World → Prop) (x0 : Option Addr) (x1 : Int) (x2 : Sl) (w : World) : Prop :=
 JoinP (T := Unit) (fun J0 =>
 ifB (Option.isNone x0)
  (R (.int .i64 5) w)
  (nilCk x0 fun (a3 : Addr) =>
   RunQ (.int .i64) P (Instr.loadAt T_int (.pointer (some ((a3.add 2).add 2)))) w fun (n4 : Int) =>
    ifB (decide (x1 ≤ n4))
     (R (.int .i64 1) w)
     (nilCk x0 fun (a5 : Addr) =>
      RunQ (.int .i64) P (Instr.loadAt T_int (.pointer (some (a5.add 11)))) w fun (n6 : Int) =>
       ifB (decide (x1 > n6))
        (R (.int .i64 1) w)
        (ifB (decide ((↑x2.len : Int) > 4096))
         (R (.int .i64 2) w)
         (J0 (some ()) w)))))
 fun t1 w2 =>
 CallP P F_raft_Raft_term [(.pointer x0), (.int .i64 x1)] w2 fun (v7 : Value) w8 =>
  TupP [(.int .i64), .bool] v7 fun (t9 : Int × Bool × Unit) =>
   ∃ S10 : World → Prop, (S10 w8.drew) ∧
     nilCk x0 fun (a11 : Addr) =>
      nilCk x0 fun (a12 : Addr) =>
       HRun S10 (.int .i64) P (Instr.loadAt T_int (.pointer (some ((a12.add 2).add 2)))) fun (n13 : Int) =>
        RunQ .sl P (Instr.loadAt T_sl_api_Entry (.pointer (some ((a11.add 2).add 5)))) w8.drew fun (s14 : Sl) =>
         (S10 w8.drew) ∧
          HRun S10 .sl P (Instr.sliceAt T_sl_api_Entry s14.v (some (.int .i64 (IntKind.i64.wrap (x1 - n13)))) none none) fun (s15 : Sl) =>
           CallP P F_raft_entries [s15.v] w8.drew fun (v16 : Value) w17 =>
            TyP .sl v16 fun (s18 : Sl) =>
             (S10 w17) ∧
              nilCk x0 fun (a19 : Addr) =>
               StoreP P T_sl_api_Entry (.pointer (some ((a19.add 2).add 5))) s18.v w17 fun w20 =>
                (S10 w20) ∧
                RunK .sl P (Builtin.append_ #[T_sl_uint8, T_sl_uint8] T_sl_uint8 #[(.slice none 0 0), x2.v]) w20 fun (s21 : Sl) w22 =>
                nilCk x0 fun (a23 : Addr) =>
                StoreP P T_int (.pointer (some ((a23.add 2).add 2))) (.int .i64 x1) w22 fun w24 =>
                nilCk x0 fun (a25 : Addr) =>
                StoreP P T_int (.pointer (some ((a25.add 2).add 3))) (.int .i64 t9.fst) w24 fun w26 =>
                nilCk x0 fun (a27 : Addr) =>
                StoreP P T_sl_uint8 (.pointer (some ((a27.add 2).add 4))) s21.v w26 fun w28 =>
                nilCk x0 fun (a29 : Addr) =>
                StoreP P T_bool (.pointer (some ((a29.add 17).add 0))) (.bool true) w28 fun w30 =>
                R (.int .i64 0) w30
def an_raft_Raft_Compact : Ann := ⟨[(7, [])], [], [8]⟩
theorem e_raft_Raft_Compact (R : Value → World → Prop) (x0 : Option Addr) (x1 : Int) (x2 : Sl) (w : World) : denF P an_raft_Raft_Compact Try.f21 [.pointer x0, .int .i64 x1, x2.v] w R = S_raft_Raft_Compact R x0 x1 x2 w := by kernel_rfl
theorem c_raft_Raft_Compact {R : Value → World → Prop} {x0 : Option Addr} {x1 : Int} {x2 : Sl} {w : World} (h : S_raft_Raft_Compact R x0 x1 x2 w) : CallP P F_raft_Raft_Compact [.pointer x0, .int .i64 x1, x2.v] w R := calls_of_denF (an := an_raft_Raft_Compact) Try.func21 (by rw [e_raft_Raft_Compact]; exact h)

end Go.Proofs.Ytfbffgcoopelfaa
