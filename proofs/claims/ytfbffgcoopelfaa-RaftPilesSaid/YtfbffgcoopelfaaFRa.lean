/- The functions of the program as predicates over worlds, written by a program of mine (PkPrint); each is held against the code by the kernel. -/
import Derived.Test.YtfbffgcoopelfaaN
namespace Go.Proofs.Ytfbffgcoopelfaa
open Go Go.Pk
/-- penstock/raft.New -/
def S_raft_New (R : Value → World → Prop) (x0 : Int) (x1 : Int) (x2 : Value) (w : World) : Prop :=
 RunK .addr P (Instr.box T_api_Hard x2) w fun (a0 : Addr) w1 =>
 JoinP (T := Unit) (fun J2 =>
  ifB (decide (x1 < 1))
   (R (.tuple #[(.pointer none), (.int .i64 1)]) w1)
   (ifB (decide (x1 > 5))
    (R (.tuple #[(.pointer none), (.int .i64 1)]) w1)
    (ifB (decide (x0 < 0))
     (R (.tuple #[(.pointer none), (.int .i64 1)]) w1)
     (ifB (decide (x0 ≥ x1))
      (R (.tuple #[(.pointer none), (.int .i64 1)]) w1)
      (RunQ (.int .i64) P (Instr.loadAt T_int (.pointer (some (Go.Addr.add a0 0)))) w1 fun (n5 : Int) =>
       ifB (decide (n5 < 0))
        (R (.tuple #[(.pointer none), (.int .i64 1)]) w1)
        (RunQ (.int .i64) P (Instr.loadAt T_int (.pointer (some (Go.Addr.add a0 2)))) w1 fun (n6 : Int) =>
         ifB (decide (n6 < 0))
          (R (.tuple #[(.pointer none), (.int .i64 1)]) w1)
          (RunQ (.int .i64) P (Instr.loadAt T_int (.pointer (some (Go.Addr.add a0 1)))) w1 fun (n7 : Int) =>
           ifB (decide (n7 < -1))
            (R (.tuple #[(.pointer none), (.int .i64 1)]) w1)
            (RunQ (.int .i64) P (Instr.loadAt T_int (.pointer (some (Go.Addr.add a0 1)))) w1 fun (n8 : Int) =>
             ifB (decide (n8 ≥ x1))
              (R (.tuple #[(.pointer none), (.int .i64 1)]) w1)
              (J2 (some ()) w1)))))))))
  fun t3 w4 =>
  JoinP (T := Option Addr × Unit) (fun J9 =>
   ∃ S12 : World → Prop, (S12 w4.drew) ∧
     HRun S12 .val P (Instr.loadAt T_api_Hard (.pointer (some a0))) fun (v13 : Value) =>
      HRun S12 (.int .i64) P (Instr.loadAt T_int (.pointer (some (Go.Addr.add a0 2)))) fun (n14 : Int) =>
       HRun S12 (.int .i64) P (Instr.loadAt T_int (.pointer (some (Go.Addr.add a0 2)))) fun (n15 : Int) =>
        (CallP P F_raft_own [v13] w4.drew fun (v16 : Value) w17 =>
          TyP .val v16 fun (v18 : Value) =>
           (S12 w17) ∧
            (RunK .sl P (Instr.makeSlice T_sl_int (.int .i64 x1) (.int .i64 x1)) w17 fun (s19 : Sl) w20 =>
              (S12 w20) ∧
               RunK .sl P (Instr.makeSlice T_sl_int (.int .i64 x1) (.int .i64 x1)) w20 fun (s21 : Sl) w22 =>
                (S12 w22) ∧
                HRun S12 .val P (Instr.build T_raft_Raft #[(0, (.int .i64 x0)), (1, (.int .i64 x1)), (2, v18), (4, (.int .i64 (-1))), (5, (.int .i64 n14)), (6, (.int .i64 n15)), (8, (.int .i64 4)), (10, s19.v), (11, s21.v)]) fun (v23 : Value) =>
                RunK .addr P (Instr.box T_raft_Raft v23) w22 fun (a24 : Addr) w25 =>
                (S12 w25) ∧
                J9 (some ((some a24), ())) w25) ∧
             (RunK .sl P (Instr.makeSlice T_sl_int (.int .i64 x1) (.int .i64 x1)) w17 fun (s26 : Sl) w27 =>
               (S12 w27) ∧
                RunK .sl P (Instr.makeSlice T_sl_int (.int .i64 x1) (.int .i64 x1)) w27 fun (s28 : Sl) w29 =>
                (S12 w29) ∧
                HRun S12 .val P (Instr.build T_raft_Raft #[(0, (.int .i64 x0)), (1, (.int .i64 x1)), (2, v18), (4, (.int .i64 (-1))), (5, (.int .i64 n14)), (6, (.int .i64 n15)), (8, (.int .i64 4)), (10, s28.v), (11, s26.v)]) fun (v30 : Value) =>
                RunK .addr P (Instr.box T_raft_Raft v30) w29 fun (a31 : Addr) w32 =>
                (S12 w32) ∧
                J9 (some ((some a31), ())) w32) ∧
              True) ∧
         (RunK .sl P (Instr.makeSlice T_sl_int (.int .i64 x1) (.int .i64 x1)) w4.drew fun (s33 : Sl) w34 =>
           (S12 w34) ∧
            (CallP P F_raft_own [v13] w34 fun (v35 : Value) w36 =>
              TyP .val v35 fun (v37 : Value) =>
               (S12 w36) ∧
                RunK .sl P (Instr.makeSlice T_sl_int (.int .i64 x1) (.int .i64 x1)) w36 fun (s38 : Sl) w39 =>
                (S12 w39) ∧
                HRun S12 .val P (Instr.build T_raft_Raft #[(0, (.int .i64 x0)), (1, (.int .i64 x1)), (2, v37), (4, (.int .i64 (-1))), (5, (.int .i64 n14)), (6, (.int .i64 n15)), (8, (.int .i64 4)), (10, s33.v), (11, s38.v)]) fun (v40 : Value) =>
                RunK .addr P (Instr.box T_raft_Raft v40) w39 fun (a41 : Addr) w42 =>
                (S12 w42) ∧
                J9 (some ((some a41), ())) w42) ∧
             (RunK .sl P (Instr.makeSlice T_sl_int (.int .i64 x1) (.int .i64 x1)) w34 fun (s43 : Sl) w44 =>
               (S12 w44) ∧
                CallP P F_raft_own [v13] w44 fun (v45 : Value) w46 =>
                TyP .val v45 fun (v47 : Value) =>
                (S12 w46) ∧
                HRun S12 .val P (Instr.build T_raft_Raft #[(0, (.int .i64 x0)), (1, (.int .i64 x1)), (2, v47), (4, (.int .i64 (-1))), (5, (.int .i64 n14)), (6, (.int .i64 n15)), (8, (.int .i64 4)), (10, s33.v), (11, s43.v)]) fun (v48 : Value) =>
                RunK .addr P (Instr.box T_raft_Raft v48) w46 fun (a49 : Addr) w50 =>
                (S12 w50) ∧
                J9 (some ((some a49), ())) w50) ∧
              True) ∧
          (RunK .sl P (Instr.makeSlice T_sl_int (.int .i64 x1) (.int .i64 x1)) w4.drew fun (s51 : Sl) w52 =>
            (S12 w52) ∧
             (CallP P F_raft_own [v13] w52 fun (v53 : Value) w54 =>
               TyP .val v53 fun (v55 : Value) =>
                (S12 w54) ∧
                RunK .sl P (Instr.makeSlice T_sl_int (.int .i64 x1) (.int .i64 x1)) w54 fun (s56 : Sl) w57 =>
                (S12 w57) ∧
                HRun S12 .val P (Instr.build T_raft_Raft #[(0, (.int .i64 x0)), (1, (.int .i64 x1)), (2, v55), (4, (.int .i64 (-1))), (5, (.int .i64 n14)), (6, (.int .i64 n15)), (8, (.int .i64 4)), (10, s56.v), (11, s51.v)]) fun (v58 : Value) =>
                RunK .addr P (Instr.box T_raft_Raft v58) w57 fun (a59 : Addr) w60 =>
                (S12 w60) ∧
                J9 (some ((some a59), ())) w60) ∧
              (RunK .sl P (Instr.makeSlice T_sl_int (.int .i64 x1) (.int .i64 x1)) w52 fun (s61 : Sl) w62 =>
                (S12 w62) ∧
                CallP P F_raft_own [v13] w62 fun (v63 : Value) w64 =>
                TyP .val v63 fun (v65 : Value) =>
                (S12 w64) ∧
                HRun S12 .val P (Instr.build T_raft_Raft #[(0, (.int .i64 x0)), (1, (.int .i64 x1)), (2, v65), (4, (.int .i64 (-1))), (5, (.int .i64 n14)), (6, (.int .i64 n15)), (8, (.int .i64 4)), (10, s61.v), (11, s51.v)]) fun (v66 : Value) =>
                RunK .addr P (Instr.box T_raft_Raft v66) w64 fun (a67 : Addr) w68 =>
                (S12 w68) ∧
                J9 (some ((some a67), ())) w68) ∧
               True) ∧
           True)
   fun t10 w11 =>
   RunQ (.int .i64) P (Instr.loadAt T_int (.pointer (some (Go.Addr.add a0 2)))) w11 fun (n69 : Int) =>
    ifB (decide (n69 > 0))
     (RunQ .sl P (Instr.loadAt T_sl_uint8 (.pointer (some (Go.Addr.add a0 4)))) w11 fun (s70 : Sl) =>
      RunK .sl P (Builtin.append_ #[T_sl_uint8, T_sl_uint8] T_sl_uint8 #[(.slice none 0 0), s70.v]) w11 fun (s71 : Sl) w72 =>
       nilCk t10.fst fun (a73 : Addr) =>
        StoreP P T_bool (.pointer (some ((a73.add 17).add 8))) (.bool true) w72 fun w74 =>
         nilCk t10.fst fun (a75 : Addr) =>
          StoreP P T_sl_uint8 (.pointer (some ((a75.add 17).add 9))) s71.v w74 fun w76 =>
           R (.tuple #[(.pointer t10.fst), (.int .i64 0)]) w76)
     (R (.tuple #[(.pointer t10.fst), (.int .i64 0)]) w11)
def an_raft_New : Ann := ⟨[(4, [(8, .ptr)]), (3, [])], [], []⟩
theorem e_raft_New (R : Value → World → Prop) (x0 : Int) (x1 : Int) (x2 : Value) (w : World) : denF P an_raft_New Try.f8 [.int .i64 x0, .int .i64 x1, x2] w R = S_raft_New R x0 x1 x2 w := by kernel_rfl
theorem c_raft_New {R : Value → World → Prop} {x0 : Int} {x1 : Int} {x2 : Value} {w : World} (h : S_raft_New R x0 x1 x2 w) : CallP P F_raft_New [.int .i64 x0, .int .i64 x1, x2] w R := calls_of_denF (an := an_raft_New) Try.func8 (by rw [e_raft_New]; exact h)


/-- penstock/penstockref12.Copy -/
def S_ref12_Copy (R : Value → World → Prop) (x0 : Value) (w : World) : Prop :=
 RunK .addr P (Instr.box T_api_Hard x0) w fun (a0 : Addr) w1 =>
 RunK .addr P (Instr.alloc T_api_Hard true (.tuple #[])) w1 fun (a2 : Addr) w3 =>
  RunQ .sl P (Instr.loadAt T_sl_uint8 (.pointer (some (Go.Addr.add a0 4)))) w3 fun (s4 : Sl) =>
   CallP P F_ref12_bytes [s4.v] w3 fun (v5 : Value) w6 =>
    TyP .sl v5 fun (s7 : Sl) =>
     StoreP P T_sl_uint8 (.pointer (some (Go.Addr.add a0 4))) s7.v w6 fun w8 =>
      RunQ .sl P (Instr.loadAt T_sl_api_Entry (.pointer (some (Go.Addr.add a0 5)))) w8 fun (s9 : Sl) =>
       CallP P F_ref12_list [s9.v] w8 fun (v10 : Value) w11 =>
        TyP .sl v10 fun (s12 : Sl) =>
         StoreP P T_sl_api_Entry (.pointer (some (Go.Addr.add a0 5))) s12.v w11 fun w13 =>
          RunQ .val P (Instr.loadAt T_api_Hard (.pointer (some a0))) w13 fun (v14 : Value) =>
           StoreP P T_api_Hard (.pointer (some a2)) v14 w13 fun w15 =>
            LoadK .val P T_api_Hard (.pointer (some a2)) w15 fun (v16 : Value) =>
             R v16 w15
def an_ref12_Copy : Ann := ⟨[], [], []⟩
theorem e_ref12_Copy (R : Value → World → Prop) (x0 : Value) (w : World) : denF P an_ref12_Copy Try.f9 [x0] w R = S_ref12_Copy R x0 w := by kernel_rfl
theorem c_ref12_Copy {R : Value → World → Prop} {x0 : Value} {w : World} (h : S_ref12_Copy R x0 w) : CallP P F_ref12_Copy [x0] w R := calls_of_denF (an := an_ref12_Copy) Try.func9 (by rw [e_ref12_Copy]; exact h)


/-- (*penstock/raft.Raft).Take -/
def S_raft_Raft_Take (R : Value → World → Prop) (x0 : Option Addr) (w : World) : Prop :=
 RunK .addr P (Instr.alloc T_api_Ready true (.tuple #[])) w fun (a0 : Addr) w1 =>
 ifB (Option.isNone x0)
  (StoreP P T_api_Ready (.pointer (some a0)) (.agg #[(.bool false), (.int .i64 0), (.int .i64 0), (.int .i64 0), (.int .i64 0), (.slice none 0 0), (.slice none 0 0), (.slice none 0 0), (.bool false), (.slice none 0 0), (.slice none 0 0)]) w1 fun w2 =>
   LoadK .val P T_api_Ready (.pointer (some a0)) w2 fun (v3 : Value) =>
    R v3 w2)
  (LoopP (T := Unit) (some ()) w1 fun next4 t5 w6 =>
   nilCk x0 fun (a7 : Addr) =>
    RunQ (.int .i64) P (Instr.loadAt T_int (.pointer (some (a7.add 11)))) w6.drew fun (n8 : Int) =>
     nilCk x0 fun (a9 : Addr) =>
      RunQ (.int .i64) P (Instr.loadAt T_int (.pointer (some (a9.add 10)))) w6.drew fun (n10 : Int) =>
       ifB (decide (n8 < n10))
        (∃ S11 : World → Prop, (S11 w6.drew.drew) ∧
          nilCk x0 fun (a12 : Addr) =>
           HRun S11 .sl P (Instr.loadAt T_sl_api_Entry (.pointer (some ((a12.add 2).add 5)))) fun (s13 : Sl) =>
            nilCk x0 fun (a14 : Addr) =>
             HRun S11 (.int .i64) P (Instr.loadAt T_int (.pointer (some (a14.add 11)))) fun (n15 : Int) =>
              nilCk x0 fun (a16 : Addr) =>
               HRun S11 (.int .i64) P (Instr.loadAt T_int (.pointer (some ((a16.add 2).add 2)))) fun (n17 : Int) =>
                HRun S11 .addr P (Instr.indexAt T_sl_api_Entry s13.v (.int .i64 (IntKind.i64.wrap (n15 - n17)))) fun (a18 : Addr) =>
                HRun S11 .val P (Instr.loadAt T_api_Entry (.pointer (some a18))) fun (v19 : Value) =>
                RunK .addr P (Instr.alloc T_api_Entry true (.tuple #[])) w6.drew.drew fun (a20 : Addr) w21 =>
                (S11 w21) ∧
                StoreP P T_api_Entry (.pointer (some a20)) v19 w21 fun w22 =>
                (S11 w22) ∧
                ∃ S23 : World → Prop, (S23 w22.drew) ∧
                nilCk x0 fun (a24 : Addr) =>
                nilCk x0 fun (a25 : Addr) =>
                HRun S23 (.int .i64) P (Instr.loadAt T_int (.pointer (some (a25.add 11)))) fun (n26 : Int) =>
                HRun S23 .sl P (Instr.loadAt T_sl_uint8 (.pointer (some (Go.Addr.add a20 1)))) fun (s27 : Sl) =>
                (RunQ .sl P (Instr.loadAt T_sl_api_Commit (.pointer (some ((a24.add 17).add 10)))) w22.drew fun (s28 : Sl) =>
                (S23 w22.drew) ∧
                RunK .sl P (Builtin.append_ #[T_sl_uint8, T_sl_uint8] T_sl_uint8 #[(.slice none 0 0), s27.v]) w22.drew fun (s29 : Sl) w30 =>
                (S23 w30) ∧
                RunK .sl P (Instr.buildSlice T_sl_api_Commit 1 #[(0, (.agg #[(.int .i64 (IntKind.i64.wrap (n26 + 1))), s29.v]))]) w30 fun (s31 : Sl) w32 =>
                (S23 w32) ∧
                RunK .sl P (Builtin.append_ #[T_sl_api_Commit, T_sl_api_Commit] T_sl_api_Commit #[s28.v, s31.v]) w32 fun (s33 : Sl) w34 =>
                (S23 w34) ∧
                nilCk x0 fun (a35 : Addr) =>
                StoreP P T_sl_api_Commit (.pointer (some ((a35.add 17).add 10))) s33.v w34 fun w36 =>
                (S23 w36) ∧
                nilCk x0 fun (a37 : Addr) =>
                RunQ (.int .i64) P (Instr.loadAt T_int (.pointer (some (a37.add 11)))) w36 fun (n38 : Int) =>
                nilCk x0 fun (a39 : Addr) =>
                StoreP P T_int (.pointer (some (a39.add 11))) (.int .i64 (IntKind.i64.wrap (n38 + 1))) w36 fun w40 =>
                next4 (some ()) w40) ∧
                (RunK .sl P (Builtin.append_ #[T_sl_uint8, T_sl_uint8] T_sl_uint8 #[(.slice none 0 0), s27.v]) w22.drew fun (s41 : Sl) w42 =>
                (S23 w42) ∧
                (RunQ .sl P (Instr.loadAt T_sl_api_Commit (.pointer (some ((a24.add 17).add 10)))) w42 fun (s43 : Sl) =>
                (S23 w42) ∧
                RunK .sl P (Instr.buildSlice T_sl_api_Commit 1 #[(0, (.agg #[(.int .i64 (IntKind.i64.wrap (n26 + 1))), s41.v]))]) w42 fun (s44 : Sl) w45 =>
                (S23 w45) ∧
                RunK .sl P (Builtin.append_ #[T_sl_api_Commit, T_sl_api_Commit] T_sl_api_Commit #[s43.v, s44.v]) w45 fun (s46 : Sl) w47 =>
                (S23 w47) ∧
                nilCk x0 fun (a48 : Addr) =>
                StoreP P T_sl_api_Commit (.pointer (some ((a48.add 17).add 10))) s46.v w47 fun w49 =>
                (S23 w49) ∧
                nilCk x0 fun (a50 : Addr) =>
                RunQ (.int .i64) P (Instr.loadAt T_int (.pointer (some (a50.add 11)))) w49 fun (n51 : Int) =>
                nilCk x0 fun (a52 : Addr) =>
                StoreP P T_int (.pointer (some (a52.add 11))) (.int .i64 (IntKind.i64.wrap (n51 + 1))) w49 fun w53 =>
                next4 (some ()) w53) ∧
                (RunK .sl P (Instr.buildSlice T_sl_api_Commit 1 #[(0, (.agg #[(.int .i64 (IntKind.i64.wrap (n26 + 1))), s41.v]))]) w42 fun (s54 : Sl) w55 =>
                (S23 w55) ∧
                RunQ .sl P (Instr.loadAt T_sl_api_Commit (.pointer (some ((a24.add 17).add 10)))) w55 fun (s56 : Sl) =>
                (S23 w55) ∧
                RunK .sl P (Builtin.append_ #[T_sl_api_Commit, T_sl_api_Commit] T_sl_api_Commit #[s56.v, s54.v]) w55 fun (s57 : Sl) w58 =>
                (S23 w58) ∧
                nilCk x0 fun (a59 : Addr) =>
                StoreP P T_sl_api_Commit (.pointer (some ((a59.add 17).add 10))) s57.v w58 fun w60 =>
                (S23 w60) ∧
                nilCk x0 fun (a61 : Addr) =>
                RunQ (.int .i64) P (Instr.loadAt T_int (.pointer (some (a61.add 11)))) w60 fun (n62 : Int) =>
                nilCk x0 fun (a63 : Addr) =>
                StoreP P T_int (.pointer (some (a63.add 11))) (.int .i64 (IntKind.i64.wrap (n62 + 1))) w60 fun w64 =>
                next4 (some ()) w64) ∧
                True) ∧
                True)
        (nilCk x0 fun (a65 : Addr) =>
         RunQ .val P (Instr.loadAt T_api_Ready (.pointer (some (a65.add 17)))) w6.drew fun (v66 : Value) =>
          RunK .addr P (Instr.alloc T_api_Ready true (.tuple #[])) w6.drew fun (a67 : Addr) w68 =>
           StoreP P T_api_Ready (.pointer (some a67)) v66 w68 fun w69 =>
            JoinP (T := Unit) (fun J70 =>
             RunQ .bool P (Instr.loadAt T_bool (.pointer (some (Go.Addr.add a67 0)))) w69 fun (b73 : Bool) =>
              ifB b73
               (nilCk x0 fun (a74 : Addr) =>
                RunQ .val P (Instr.loadAt T_api_Hard (.pointer (some (a74.add 2)))) w69 fun (v75 : Value) =>
                CallP P F_raft_own [v75] w69 fun (v76 : Value) w77 =>
                TyP .val v76 fun (v78 : Value) =>
                StoreP P T_api_Hard (.pointer (some (Go.Addr.add a67 1))) v78 w77 fun w79 =>
                J70 (some ()) w79)
               (J70 (some ()) w69))
             fun t71 w72 =>
             nilCk x0 fun (a80 : Addr) =>
              StoreP P T_api_Ready (.pointer (some (a80.add 17))) (.agg #[(.bool false), (.int .i64 0), (.int .i64 0), (.int .i64 0), (.int .i64 0), (.slice none 0 0), (.slice none 0 0), (.slice none 0 0), (.bool false), (.slice none 0 0), (.slice none 0 0)]) w72 fun w81 =>
               RunQ .val P (Instr.loadAt T_api_Ready (.pointer (some a67))) w81 fun (v82 : Value) =>
                StoreP P T_api_Ready (.pointer (some a0)) v82 w81 fun w83 =>
                LoadK .val P T_api_Ready (.pointer (some a0)) w83 fun (v84 : Value) =>
                R v84 w83))
def an_raft_Raft_Take : Ann := ⟨[(10, [])], [(3, [])], [6]⟩
theorem e_raft_Raft_Take (R : Value → World → Prop) (x0 : Option Addr) (w : World) : denF P an_raft_Raft_Take Try.f11 [.pointer x0] w R = S_raft_Raft_Take R x0 w := by kernel_rfl
theorem c_raft_Raft_Take {R : Value → World → Prop} {x0 : Option Addr} {w : World} (h : S_raft_Raft_Take R x0 w) : CallP P F_raft_Raft_Take [.pointer x0] w R := calls_of_denF (an := an_raft_Raft_Take) Try.func11 (by rw [e_raft_Raft_Take]; exact h)


/-- (*penstock/raft.Raft).State -/
def S_raft_Raft_State (R : Value → World → Prop) (x0 : Option Addr) (w : World) : Prop :=
 ifB (Option.isNone x0)
 (R (.tuple #[(.int .i64 0), (.int .i64 0), (.int .i64 0), (.int .i64 0), (.int .i64 0)]) w)
 (∃ S0 : World → Prop, (S0 w.drew) ∧
   nilCk x0 fun (a1 : Addr) =>
    HRun S0 (.int .i64) P (Instr.loadAt T_int (.pointer (some (a1.add 8)))) fun (n2 : Int) =>
     nilCk x0 fun (a3 : Addr) =>
      HRun S0 (.int .i64) P (Instr.loadAt T_int (.pointer (some ((a3.add 2).add 0)))) fun (n4 : Int) =>
       nilCk x0 fun (a5 : Addr) =>
        HRun S0 (.int .i64) P (Instr.loadAt T_int (.pointer (some (a5.add 9)))) fun (n6 : Int) =>
         nilCk x0 fun (a7 : Addr) =>
          HRun S0 (.int .i64) P (Instr.loadAt T_int (.pointer (some (a7.add 10)))) fun (n8 : Int) =>
           CallP P F_raft_Raft_last [(.pointer x0)] w.drew fun (v9 : Value) w10 =>
            TyP (.int .i64) v9 fun (n11 : Int) =>
             (S0 w10) ∧
              R (.tuple #[(.int .i64 n2), (.int .i64 n4), (.int .i64 n6), (.int .i64 n8), (.int .i64 n11)]) w10)
def an_raft_Raft_State : Ann := ⟨[], [], []⟩
theorem e_raft_Raft_State (R : Value → World → Prop) (x0 : Option Addr) (w : World) : denF P an_raft_Raft_State Try.f12 [.pointer x0] w R = S_raft_Raft_State R x0 w := by kernel_rfl
theorem c_raft_Raft_State {R : Value → World → Prop} {x0 : Option Addr} {w : World} (h : S_raft_Raft_State R x0 w) : CallP P F_raft_Raft_State [.pointer x0] w R := calls_of_denF (an := an_raft_Raft_State) Try.func12 (by rw [e_raft_Raft_State]; exact h)


/-- penstock/penstockref03.Same -/
def S_ref03_Same (R : Value → World → Prop) (x0 : Sl) (x1 : Sl) (w : World) : Prop :=
 ifB ((↑x0.len : Int) != (↑x1.len : Int))
 (R (.bool false) w)
 (LoopP (T := Int × Unit) (some (0, ())) w fun next0 t1 w2 =>
  ifB (decide (t1.fst < (↑x0.len : Int)))
   (RunQ .addr P (Instr.indexAt T_sl_uint8 x0.v (.int .i64 t1.fst)) w2.drew fun (a3 : Addr) =>
    RunQ (.int .u8) P (Instr.loadAt T_uint8 (.pointer (some a3))) w2.drew fun (n4 : Int) =>
     RunQ .addr P (Instr.indexAt T_sl_uint8 x1.v (.int .i64 t1.fst)) w2.drew fun (a5 : Addr) =>
      RunQ (.int .u8) P (Instr.loadAt T_uint8 (.pointer (some a5))) w2.drew fun (n6 : Int) =>
       ifB (n4 != n6)
        (R (.bool false) w2.drew)
        (next0 (some ((IntKind.i64.wrap (t1.fst + 1)), ())) w2.drew))
   (R (.bool true) w2))
def an_ref03_Same : Ann := ⟨[], [(4, [(5, (.int .i64))])], []⟩
theorem e_ref03_Same (R : Value → World → Prop) (x0 : Sl) (x1 : Sl) (w : World) : denF P an_ref03_Same Try.f13 [x0.v, x1.v] w R = S_ref03_Same R x0 x1 w := by kernel_rfl
theorem c_ref03_Same {R : Value → World → Prop} {x0 : Sl} {x1 : Sl} {w : World} (h : S_ref03_Same R x0 x1 w) : CallP P F_ref03_Same [x0.v, x1.v] w R := calls_of_denF (an := an_ref03_Same) Try.func13 (by rw [e_ref03_Same]; exact h)


/-- (*penstock/raft.Raft).Tick -/
def S_raft_Raft_Tick (R : Value → World → Prop) (x0 : Option Addr) (x1 : Int) (w : World) : Prop :=
 ifB (Option.isNone x0)
 (R (.tuple #[]) w)
 (nilCk x0 fun (a0 : Addr) =>
  RunQ (.int .i64) P (Instr.loadAt T_int (.pointer (some (a0.add 8)))) w fun (n1 : Int) =>
   ifB (n1 == 3)
    (CallP P F_raft_Raft_spread [(.pointer x0)] w fun (v2 : Value) w3 =>
     TupP [] v2 fun (t4 : Unit) =>
      R (.tuple #[]) w3)
    (nilCk x0 fun (a5 : Addr) =>
     RunQ (.int .i64) P (Instr.loadAt T_int (.pointer (some (a5.add 12)))) w fun (n6 : Int) =>
      nilCk x0 fun (a7 : Addr) =>
       StoreP P T_int (.pointer (some (a7.add 12))) (.int .i64 (IntKind.i64.wrap (n6 + 1))) w fun w8 =>
        nilCk x0 fun (a9 : Addr) =>
         RunQ (.int .i64) P (Instr.loadAt T_int (.pointer (some (a9.add 12)))) w8.drew fun (n10 : Int) =>
          nilCk x0 fun (a11 : Addr) =>
           RunQ (.int .i64) P (Instr.loadAt T_int (.pointer (some (a11.add 13)))) w8.drew fun (n12 : Int) =>
            ifB (decide (n10 ≥ n12))
             (CallP P F_raft_Raft_wait [(.pointer x0), (.int .u64 x1)] w8.drew fun (v13 : Value) w14 =>
              TupP [] v13 fun (t15 : Unit) =>
               CallP P F_raft_Raft_ask [(.pointer x0), (.int .i64 1)] w14 fun (v16 : Value) w17 =>
                TupP [] v16 fun (t18 : Unit) =>
                R (.tuple #[]) w17)
             (R (.tuple #[]) w8.drew)))
def an_raft_Raft_Tick : Ann := ⟨[], [], []⟩
theorem e_raft_Raft_Tick (R : Value → World → Prop) (x0 : Option Addr) (x1 : Int) (w : World) : denF P an_raft_Raft_Tick Try.f14 [.pointer x0, .int .u64 x1] w R = S_raft_Raft_Tick R x0 x1 w := by kernel_rfl
theorem c_raft_Raft_Tick {R : Value → World → Prop} {x0 : Option Addr} {x1 : Int} {w : World} (h : S_raft_Raft_Tick R x0 x1 w) : CallP P F_raft_Raft_Tick [.pointer x0, .int .u64 x1] w R := calls_of_denF (an := an_raft_Raft_Tick) Try.func14 (by rw [e_raft_Raft_Tick]; exact h)


/-- (*penstock/raft.Raft).Propose -/
def S_raft_Raft_Propose (R : Value → World → Prop) (x0 : Option Addr) (x1 : Sl) (w : World) : Prop :=
 ifB (Option.isNone x0)
 (R (.tuple #[(.int .i64 0), (.int .i64 5)]) w)
 (nilCk x0 fun (a0 : Addr) =>
  RunQ (.int .i64) P (Instr.loadAt T_int (.pointer (some (a0.add 8)))) w fun (n1 : Int) =>
   ifB (n1 != 3)
    (R (.tuple #[(.int .i64 0), (.int .i64 12)]) w)
    (ifB (decide ((↑x1.len : Int) > 4096))
     (R (.tuple #[(.int .i64 0), (.int .i64 2)]) w)
     (∃ S2 : World → Prop, (S2 w.drew) ∧
       nilCk x0 fun (a3 : Addr) =>
        HRun S2 (.int .i64) P (Instr.loadAt T_int (.pointer (some (a3.add 10)))) fun (n4 : Int) =>
         CallP P F_raft_Raft_last [(.pointer x0)] w.drew fun (v5 : Value) w6 =>
          TyP (.int .i64) v5 fun (n7 : Int) =>
           (S2 w6) ∧
            ifB (decide (IntKind.i64.wrap (n7 - n4) ≥ 64))
             (R (.tuple #[(.int .i64 0), (.int .i64 3)]) w6)
             (CallP P F_raft_Raft_append [(.pointer x0), x1.v] w6 fun (v8 : Value) w9 =>
              TupP [] v8 fun (t10 : Unit) =>
               CallP P F_raft_Raft_spread [(.pointer x0)] w9 fun (v11 : Value) w12 =>
                TupP [] v11 fun (t13 : Unit) =>
                CallP P F_raft_Raft_last [(.pointer x0)] w12 fun (v14 : Value) w15 =>
                TyP (.int .i64) v14 fun (n16 : Int) =>
                R (.tuple #[(.int .i64 n16), (.int .i64 0)]) w15))))
def an_raft_Raft_Propose : Ann := ⟨[], [], []⟩
theorem e_raft_Raft_Propose (R : Value → World → Prop) (x0 : Option Addr) (x1 : Sl) (w : World) : denF P an_raft_Raft_Propose Try.f15 [.pointer x0, x1.v] w R = S_raft_Raft_Propose R x0 x1 w := by kernel_rfl
theorem c_raft_Raft_Propose {R : Value → World → Prop} {x0 : Option Addr} {x1 : Sl} {w : World} (h : S_raft_Raft_Propose R x0 x1 w) : CallP P F_raft_Raft_Propose [.pointer x0, x1.v] w R := calls_of_denF (an := an_raft_Raft_Propose) Try.func15 (by rw [e_raft_Raft_Propose]; exact h)


/-- penstock/raft.own -/
def S_raft_own (R : Value → World → Prop) (x0 : Value) (w : World) : Prop :=
 RunK .addr P (Instr.box T_api_Hard x0) w fun (a0 : Addr) w1 =>
 RunK .addr P (Instr.alloc T_api_Hard true (.tuple #[])) w1 fun (a2 : Addr) w3 =>
  RunQ .sl P (Instr.loadAt T_sl_uint8 (.pointer (some (Go.Addr.add a0 4)))) w3 fun (s4 : Sl) =>
   RunK .sl P (Builtin.append_ #[T_sl_uint8, T_sl_uint8] T_sl_uint8 #[(.slice none 0 0), s4.v]) w3 fun (s5 : Sl) w6 =>
    StoreP P T_sl_uint8 (.pointer (some (Go.Addr.add a0 4))) s5.v w6 fun w7 =>
     RunQ .sl P (Instr.loadAt T_sl_api_Entry (.pointer (some (Go.Addr.add a0 5)))) w7 fun (s8 : Sl) =>
      CallP P F_raft_entries [s8.v] w7 fun (v9 : Value) w10 =>
       TyP .sl v9 fun (s11 : Sl) =>
        StoreP P T_sl_api_Entry (.pointer (some (Go.Addr.add a0 5))) s11.v w10 fun w12 =>
         RunQ .val P (Instr.loadAt T_api_Hard (.pointer (some a0))) w12 fun (v13 : Value) =>
          StoreP P T_api_Hard (.pointer (some a2)) v13 w12 fun w14 =>
           LoadK .val P T_api_Hard (.pointer (some a2)) w14 fun (v15 : Value) =>
            R v15 w14
def an_raft_own : Ann := ⟨[], [], []⟩
theorem e_raft_own (R : Value → World → Prop) (x0 : Value) (w : World) : denF P an_raft_own Try.f22 [x0] w R = S_raft_own R x0 w := by kernel_rfl
theorem c_raft_own {R : Value → World → Prop} {x0 : Value} {w : World} (h : S_raft_own R x0 w) : CallP P F_raft_own [x0] w R := calls_of_denF (an := an_raft_own) Try.func22 (by rw [e_raft_own]; exact h)


/-- penstock/penstockref12.bytes -/
def S_ref12_bytes (R : Value → World → Prop) (x0 : Sl) (w : World) : Prop :=
 RunK .sl P (Builtin.append_ #[T_sl_uint8, T_sl_uint8] T_sl_uint8 #[(.slice none 0 0), x0.v]) w fun (s0 : Sl) w1 =>
 R s0.v w1
def an_ref12_bytes : Ann := ⟨[], [], []⟩
theorem e_ref12_bytes (R : Value → World → Prop) (x0 : Sl) (w : World) : denF P an_ref12_bytes Try.f23 [x0.v] w R = S_ref12_bytes R x0 w := by kernel_rfl
theorem c_ref12_bytes {R : Value → World → Prop} {x0 : Sl} {w : World} (h : S_ref12_bytes R x0 w) : CallP P F_ref12_bytes [x0.v] w R := calls_of_denF (an := an_ref12_bytes) Try.func23 (by rw [e_ref12_bytes]; exact h)


/-- penstock/penstockref12.list -/
def S_ref12_list (R : Value → World → Prop) (x0 : Sl) (w : World) : Prop :=
 LoopP (T := Sl × Int × Unit) (some (⟨none, 0, 0⟩, (0, ()))) w fun next0 t1 w2 =>
 ifB (decide (t1.snd.fst < (↑x0.len : Int)))
  (∃ S3 : World → Prop, (S3 w2.drew) ∧
    HRun S3 .addr P (Instr.indexAt T_sl_api_Entry x0.v (.int .i64 t1.snd.fst)) fun (a4 : Addr) =>
     HRun S3 (.int .i64) P (Instr.loadAt T_int (.pointer (some (Go.Addr.add a4 0)))) fun (n5 : Int) =>
      HRun S3 .addr P (Instr.indexAt T_sl_api_Entry x0.v (.int .i64 t1.snd.fst)) fun (a6 : Addr) =>
       HRun S3 .sl P (Instr.loadAt T_sl_uint8 (.pointer (some (Go.Addr.add a6 1)))) fun (s7 : Sl) =>
        CallP P F_ref12_bytes [s7.v] w2.drew fun (v8 : Value) w9 =>
         TyP .sl v8 fun (s10 : Sl) =>
          (S3 w9) ∧
           RunK .sl P (Instr.buildSlice T_sl_api_Entry 1 #[(0, (.agg #[(.int .i64 n5), s10.v]))]) w9 fun (s11 : Sl) w12 =>
            (S3 w12) ∧
             RunK .sl P (Builtin.append_ #[T_sl_api_Entry, T_sl_api_Entry] T_sl_api_Entry #[t1.fst.v, s11.v]) w12 fun (s13 : Sl) w14 =>
              (S3 w14) ∧
               next0 (some (s13, ((IntKind.i64.wrap (t1.snd.fst + 1)), ()))) w14)
  (R t1.fst.v w2)
def an_ref12_list : Ann := ⟨[], [(3, [(3, .sl), (4, (.int .i64))])], []⟩
theorem e_ref12_list (R : Value → World → Prop) (x0 : Sl) (w : World) : denF P an_ref12_list Try.f24 [x0.v] w R = S_ref12_list R x0 w := by kernel_rfl
theorem c_ref12_list {R : Value → World → Prop} {x0 : Sl} {w : World} (h : S_ref12_list R x0 w) : CallP P F_ref12_list [x0.v] w R := calls_of_denF (an := an_ref12_list) Try.func24 (by rw [e_ref12_list]; exact h)


/-- (*penstock/raft.Raft).last -/
def S_raft_Raft_last (R : Value → World → Prop) (x0 : Option Addr) (w : World) : Prop :=
 nilCk x0 fun (a0 : Addr) =>
 RunQ (.int .i64) P (Instr.loadAt T_int (.pointer (some ((a0.add 2).add 2)))) w.drew fun (n1 : Int) =>
  nilCk x0 fun (a2 : Addr) =>
   RunQ .sl P (Instr.loadAt T_sl_api_Entry (.pointer (some ((a2.add 2).add 5)))) w.drew fun (s3 : Sl) =>
    R (.int .i64 (IntKind.i64.wrap (n1 + (↑s3.len : Int)))) w.drew
def an_raft_Raft_last : Ann := ⟨[], [], []⟩
theorem e_raft_Raft_last (R : Value → World → Prop) (x0 : Option Addr) (w : World) : denF P an_raft_Raft_last Try.f25 [.pointer x0] w R = S_raft_Raft_last R x0 w := by kernel_rfl
theorem c_raft_Raft_last {R : Value → World → Prop} {x0 : Option Addr} {w : World} (h : S_raft_Raft_last R x0 w) : CallP P F_raft_Raft_last [.pointer x0] w R := calls_of_denF (an := an_raft_Raft_last) Try.func25 (by rw [e_raft_Raft_last]; exact h)


/-- (*penstock/raft.Raft).spread -/
def S_raft_Raft_spread (R : Value → World → Prop) (x0 : Option Addr) (w : World) : Prop :=
 nilCk x0 fun (a0 : Addr) =>
 RunQ (.int .i64) P (Instr.loadAt T_int (.pointer (some (a0.add 1)))) w fun (n1 : Int) =>
  LoopP (T := Int × Unit) (some (0, ())) w fun next2 t3 w4 =>
   ifB (decide (t3.fst < n1))
    (nilCk x0 fun (a5 : Addr) =>
     RunQ (.int .i64) P (Instr.loadAt T_int (.pointer (some (a5.add 0)))) w4 fun (n6 : Int) =>
      ifB (t3.fst != n6)
       (CallP P F_raft_Raft_feed [(.pointer x0), (.int .i64 t3.fst)] w4 fun (v7 : Value) w8 =>
        TupP [] v7 fun (t9 : Unit) =>
         next2 (some ((IntKind.i64.wrap (t3.fst + 1)), ())) w8)
       (next2 (some ((IntKind.i64.wrap (t3.fst + 1)), ())) w4))
    (R (.tuple #[]) w4)
def an_raft_Raft_spread : Ann := ⟨[], [(1, [(7, (.int .i64))])], []⟩
theorem e_raft_Raft_spread (R : Value → World → Prop) (x0 : Option Addr) (w : World) : denF P an_raft_Raft_spread Try.f26 [.pointer x0] w R = S_raft_Raft_spread R x0 w := by kernel_rfl
theorem c_raft_Raft_spread {R : Value → World → Prop} {x0 : Option Addr} {w : World} (h : S_raft_Raft_spread R x0 w) : CallP P F_raft_Raft_spread [.pointer x0] w R := calls_of_denF (an := an_raft_Raft_spread) Try.func26 (by rw [e_raft_Raft_spread]; exact h)


/-- (*penstock/raft.Raft).wait -/
def S_raft_Raft_wait (R : Value → World → Prop) (x0 : Option Addr) (x1 : Int) (w : World) : Prop :=
 nilCk x0 fun (a0 : Addr) =>
 StoreP P T_int (.pointer (some (a0.add 12))) (.int .i64 0) w fun w1 =>
  nilCk x0 fun (a2 : Addr) =>
   StoreP P T_int (.pointer (some (a2.add 13))) (.int .i64 (IntKind.i64.wrap (4 + IntKind.i64.wrap (Int.tmod x1 4)))) w1 fun w3 =>
    R (.tuple #[]) w3
def an_raft_Raft_wait : Ann := ⟨[], [], []⟩
theorem e_raft_Raft_wait (R : Value → World → Prop) (x0 : Option Addr) (x1 : Int) (w : World) : denF P an_raft_Raft_wait Try.f27 [.pointer x0, .int .u64 x1] w R = S_raft_Raft_wait R x0 x1 w := by kernel_rfl
theorem c_raft_Raft_wait {R : Value → World → Prop} {x0 : Option Addr} {x1 : Int} {w : World} (h : S_raft_Raft_wait R x0 x1 w) : CallP P F_raft_Raft_wait [.pointer x0, .int .u64 x1] w R := calls_of_denF (an := an_raft_Raft_wait) Try.func27 (by rw [e_raft_Raft_wait]; exact h)


/-- (*penstock/raft.Raft).ask -/
def S_raft_Raft_ask (R : Value → World → Prop) (x0 : Option Addr) (x1 : Int) (w : World) : Prop :=
 nilCk x0 fun (a0 : Addr) =>
 StoreP P T_int (.pointer (some (a0.add 8))) (.int .i64 x1) w fun w1 =>
  nilCk x0 fun (a2 : Addr) =>
   StoreP P T_int (.pointer (some (a2.add 9))) (.int .i64 (-1)) w1 fun w3 =>
    nilCk x0 fun (a4 : Addr) =>
     RunQ (.int .i64) P (Instr.loadAt T_int (.pointer (some ((a4.add 2).add 0)))) w3.drew fun (n5 : Int) =>
      JoinP (T := Int × Unit) (fun J6 =>
       ifB (x1 == 2)
        (nilCk x0 fun (a9 : Addr) =>
         RunQ (.int .i64) P (Instr.loadAt T_int (.pointer (some (a9.add 0)))) w3.drew fun (n10 : Int) =>
          nilCk x0 fun (a11 : Addr) =>
           StoreP P T_int (.pointer (some ((a11.add 2).add 0))) (.int .i64 (IntKind.i64.wrap (n5 + 1))) w3.drew fun w12 =>
            nilCk x0 fun (a13 : Addr) =>
             StoreP P T_int (.pointer (some ((a13.add 2).add 1))) (.int .i64 n10) w12 fun w14 =>
              nilCk x0 fun (a15 : Addr) =>
               StoreP P T_bool (.pointer (some ((a15.add 17).add 0))) (.bool true) w14 fun w16 =>
                J6 (some (3, ())) w16)
        (J6 (some (1, ())) w3.drew))
       fun t7 w8 =>
       RunK .map P (Instr.makeMap T_map_int_bool none) w8 fun (m17 : Option Nat) w18 =>
        nilCk x0 fun (a19 : Addr) =>
         RunQ (.int .i64) P (Instr.loadAt T_int (.pointer (some (a19.add 0)))) w18 fun (n20 : Int) =>
          RunU P (Instr.mapUpdate T_map_int_bool (.map m17) (.int .i64 n20) (.bool true)) w18 fun w21 =>
           nilCk x0 fun (a22 : Addr) =>
            StoreP P T_map_int_bool (.pointer (some (a22.add 14))) (.map m17) w21 fun w23 =>
             CallP P F_raft_Raft_last [(.pointer x0)] w23 fun (v24 : Value) w25 =>
              TyP (.int .i64) v24 fun (n26 : Int) =>
               CallP P F_raft_Raft_term [(.pointer x0), (.int .i64 n26)] w25 fun (v27 : Value) w28 =>
                TupP [(.int .i64), .bool] v27 fun (t29 : Int × Bool × Unit) =>
                nilCk x0 fun (a30 : Addr) =>
                RunQ (.int .i64) P (Instr.loadAt T_int (.pointer (some (a30.add 1)))) w28 fun (n31 : Int) =>
                LoopP (T := Int × Unit) (some (0, ())) w28 fun next32 t33 w34 =>
                ifB (decide (t33.fst < n31))
                (nilCk x0 fun (a35 : Addr) =>
                RunQ (.int .i64) P (Instr.loadAt T_int (.pointer (some (a35.add 0)))) w34 fun (n36 : Int) =>
                ifB (t33.fst != n36)
                (CallP P F_raft_Raft_send [(.pointer x0), (.agg #[(.int .i64 t7.fst), (.int .i64 0), (.int .i64 t33.fst), (.int .i64 (IntKind.i64.wrap (n5 + 1))), (.int .i64 n26), (.int .i64 t29.fst), (.int .i64 0), (.bool false), (.slice none 0 0), (.slice none 0 0)])] w34 fun (v37 : Value) w38 =>
                TupP [] v37 fun (t39 : Unit) =>
                next32 (some ((IntKind.i64.wrap (t33.fst + 1)), ())) w38)
                (next32 (some ((IntKind.i64.wrap (t33.fst + 1)), ())) w34))
                (CallP P F_raft_Raft_count [(.pointer x0)] w34 fun (v40 : Value) w41 =>
                TupP [] v40 fun (t42 : Unit) =>
                R (.tuple #[]) w41)
def an_raft_Raft_ask : Ann := ⟨[(6, [(4, (.int .i64))])], [(10, [(63, (.int .i64))])], []⟩
theorem e_raft_Raft_ask (R : Value → World → Prop) (x0 : Option Addr) (x1 : Int) (w : World) : denF P an_raft_Raft_ask Try.f28 [.pointer x0, .int .i64 x1] w R = S_raft_Raft_ask R x0 x1 w := by kernel_rfl
theorem c_raft_Raft_ask {R : Value → World → Prop} {x0 : Option Addr} {x1 : Int} {w : World} (h : S_raft_Raft_ask R x0 x1 w) : CallP P F_raft_Raft_ask [.pointer x0, .int .i64 x1] w R := calls_of_denF (an := an_raft_Raft_ask) Try.func28 (by rw [e_raft_Raft_ask]; exact h)


/-- (*penstock/raft.Raft).append -/
def S_raft_Raft_append (R : Value → World → Prop) (x0 : Option Addr) (x1 : Sl) (w : World) : Prop :=
 ∃ S0 : World → Prop, (S0 w.drew) ∧
  nilCk x0 fun (a1 : Addr) =>
   nilCk x0 fun (a2 : Addr) =>
    HRun S0 (.int .i64) P (Instr.loadAt T_int (.pointer (some ((a2.add 2).add 0)))) fun (n3 : Int) =>
     (RunQ .sl P (Instr.loadAt T_sl_api_Entry (.pointer (some ((a1.add 2).add 5)))) w.drew fun (s4 : Sl) =>
       (S0 w.drew) ∧
        RunK .sl P (Builtin.append_ #[T_sl_uint8, T_sl_uint8] T_sl_uint8 #[(.slice none 0 0), x1.v]) w.drew fun (s5 : Sl) w6 =>
         (S0 w6) ∧
          RunK .sl P (Instr.buildSlice T_sl_api_Entry 1 #[(0, (.agg #[(.int .i64 n3), s5.v]))]) w6 fun (s7 : Sl) w8 =>
           (S0 w8) ∧
            RunK .sl P (Builtin.append_ #[T_sl_api_Entry, T_sl_api_Entry] T_sl_api_Entry #[s4.v, s7.v]) w8 fun (s9 : Sl) w10 =>
             (S0 w10) ∧
              nilCk x0 fun (a11 : Addr) =>
               StoreP P T_sl_api_Entry (.pointer (some ((a11.add 2).add 5))) s9.v w10 fun w12 =>
                (S0 w12) ∧
                nilCk x0 fun (a13 : Addr) =>
                StoreP P T_bool (.pointer (some ((a13.add 17).add 0))) (.bool true) w12 fun w14 =>
                ∃ S15 : World → Prop, (S15 w14.drew) ∧
                nilCk x0 fun (a16 : Addr) =>
                HRun S15 .sl P (Instr.loadAt T_sl_int (.pointer (some (a16.add 16)))) fun (s17 : Sl) =>
                nilCk x0 fun (a18 : Addr) =>
                HRun S15 (.int .i64) P (Instr.loadAt T_int (.pointer (some (a18.add 0)))) fun (n19 : Int) =>
                CallP P F_raft_Raft_last [(.pointer x0)] w14.drew fun (v20 : Value) w21 =>
                TyP (.int .i64) v20 fun (n22 : Int) =>
                (S15 w21) ∧
                HRun S15 .addr P (Instr.indexAt T_sl_int s17.v (.int .i64 n19)) fun (a23 : Addr) =>
                StoreP P T_int (.pointer (some a23)) (.int .i64 n22) w21 fun w24 =>
                (S15 w24) ∧
                CallP P F_raft_Raft_advance [(.pointer x0)] w24 fun (v25 : Value) w26 =>
                TupP [] v25 fun (t27 : Unit) =>
                R (.tuple #[]) w26) ∧
      (RunK .sl P (Builtin.append_ #[T_sl_uint8, T_sl_uint8] T_sl_uint8 #[(.slice none 0 0), x1.v]) w.drew fun (s28 : Sl) w29 =>
        (S0 w29) ∧
         (RunQ .sl P (Instr.loadAt T_sl_api_Entry (.pointer (some ((a1.add 2).add 5)))) w29 fun (s30 : Sl) =>
           (S0 w29) ∧
            RunK .sl P (Instr.buildSlice T_sl_api_Entry 1 #[(0, (.agg #[(.int .i64 n3), s28.v]))]) w29 fun (s31 : Sl) w32 =>
             (S0 w32) ∧
              RunK .sl P (Builtin.append_ #[T_sl_api_Entry, T_sl_api_Entry] T_sl_api_Entry #[s30.v, s31.v]) w32 fun (s33 : Sl) w34 =>
               (S0 w34) ∧
                nilCk x0 fun (a35 : Addr) =>
                StoreP P T_sl_api_Entry (.pointer (some ((a35.add 2).add 5))) s33.v w34 fun w36 =>
                (S0 w36) ∧
                nilCk x0 fun (a37 : Addr) =>
                StoreP P T_bool (.pointer (some ((a37.add 17).add 0))) (.bool true) w36 fun w38 =>
                ∃ S39 : World → Prop, (S39 w38.drew) ∧
                nilCk x0 fun (a40 : Addr) =>
                HRun S39 .sl P (Instr.loadAt T_sl_int (.pointer (some (a40.add 16)))) fun (s41 : Sl) =>
                nilCk x0 fun (a42 : Addr) =>
                HRun S39 (.int .i64) P (Instr.loadAt T_int (.pointer (some (a42.add 0)))) fun (n43 : Int) =>
                CallP P F_raft_Raft_last [(.pointer x0)] w38.drew fun (v44 : Value) w45 =>
                TyP (.int .i64) v44 fun (n46 : Int) =>
                (S39 w45) ∧
                HRun S39 .addr P (Instr.indexAt T_sl_int s41.v (.int .i64 n43)) fun (a47 : Addr) =>
                StoreP P T_int (.pointer (some a47)) (.int .i64 n46) w45 fun w48 =>
                (S39 w48) ∧
                CallP P F_raft_Raft_advance [(.pointer x0)] w48 fun (v49 : Value) w50 =>
                TupP [] v49 fun (t51 : Unit) =>
                R (.tuple #[]) w50) ∧
          (RunK .sl P (Instr.buildSlice T_sl_api_Entry 1 #[(0, (.agg #[(.int .i64 n3), s28.v]))]) w29 fun (s52 : Sl) w53 =>
            (S0 w53) ∧
             RunQ .sl P (Instr.loadAt T_sl_api_Entry (.pointer (some ((a1.add 2).add 5)))) w53 fun (s54 : Sl) =>
              (S0 w53) ∧
               RunK .sl P (Builtin.append_ #[T_sl_api_Entry, T_sl_api_Entry] T_sl_api_Entry #[s54.v, s52.v]) w53 fun (s55 : Sl) w56 =>
                (S0 w56) ∧
                nilCk x0 fun (a57 : Addr) =>
                StoreP P T_sl_api_Entry (.pointer (some ((a57.add 2).add 5))) s55.v w56 fun w58 =>
                (S0 w58) ∧
                nilCk x0 fun (a59 : Addr) =>
                StoreP P T_bool (.pointer (some ((a59.add 17).add 0))) (.bool true) w58 fun w60 =>
                ∃ S61 : World → Prop, (S61 w60.drew) ∧
                nilCk x0 fun (a62 : Addr) =>
                HRun S61 .sl P (Instr.loadAt T_sl_int (.pointer (some (a62.add 16)))) fun (s63 : Sl) =>
                nilCk x0 fun (a64 : Addr) =>
                HRun S61 (.int .i64) P (Instr.loadAt T_int (.pointer (some (a64.add 0)))) fun (n65 : Int) =>
                CallP P F_raft_Raft_last [(.pointer x0)] w60.drew fun (v66 : Value) w67 =>
                TyP (.int .i64) v66 fun (n68 : Int) =>
                (S61 w67) ∧
                HRun S61 .addr P (Instr.indexAt T_sl_int s63.v (.int .i64 n65)) fun (a69 : Addr) =>
                StoreP P T_int (.pointer (some a69)) (.int .i64 n68) w67 fun w70 =>
                (S61 w70) ∧
                CallP P F_raft_Raft_advance [(.pointer x0)] w70 fun (v71 : Value) w72 =>
                TupP [] v71 fun (t73 : Unit) =>
                R (.tuple #[]) w72) ∧
           True) ∧
       True
def an_raft_Raft_append : Ann := ⟨[], [], [0]⟩
theorem e_raft_Raft_append (R : Value → World → Prop) (x0 : Option Addr) (x1 : Sl) (w : World) : denF P an_raft_Raft_append Try.f29 [.pointer x0, x1.v] w R = S_raft_Raft_append R x0 x1 w := by kernel_rfl
theorem c_raft_Raft_append {R : Value → World → Prop} {x0 : Option Addr} {x1 : Sl} {w : World} (h : S_raft_Raft_append R x0 x1 w) : CallP P F_raft_Raft_append [.pointer x0, x1.v] w R := calls_of_denF (an := an_raft_Raft_append) Try.func29 (by rw [e_raft_Raft_append]; exact h)


/-- (*penstock/raft.Raft).fresh -/
def S_raft_Raft_fresh (R : Value → World → Prop) (x0 : Option Addr) (x1 : Value) (w : World) : Prop :=
 RunK .addr P (Instr.box T_api_RMsg x1) w fun (a0 : Addr) w1 =>
 CallP P F_raft_Raft_last [(.pointer x0)] w1 fun (v2 : Value) w3 =>
  TyP (.int .i64) v2 fun (n4 : Int) =>
   CallP P F_raft_Raft_term [(.pointer x0), (.int .i64 n4)] w3 fun (v5 : Value) w6 =>
    TupP [(.int .i64), .bool] v5 fun (t7 : Int × Bool × Unit) =>
     RunQ (.int .i64) P (Instr.loadAt T_int (.pointer (some (Go.Addr.add a0 5)))) w6 fun (n8 : Int) =>
      ifB (decide (n8 > t7.fst))
       (R (.bool true) w6)
       (RunQ (.int .i64) P (Instr.loadAt T_int (.pointer (some (Go.Addr.add a0 5)))) w6 fun (n9 : Int) =>
        ifB (n9 == t7.fst)
         (RunQ (.int .i64) P (Instr.loadAt T_int (.pointer (some (Go.Addr.add a0 4)))) w6 fun (n10 : Int) =>
          R (.bool (decide (n10 ≥ n4))) w6)
         (R (.bool false) w6))
def an_raft_Raft_fresh : Ann := ⟨[], [], []⟩
theorem e_raft_Raft_fresh (R : Value → World → Prop) (x0 : Option Addr) (x1 : Value) (w : World) : denF P an_raft_Raft_fresh Try.f34 [.pointer x0, x1] w R = S_raft_Raft_fresh R x0 x1 w := by kernel_rfl
theorem c_raft_Raft_fresh {R : Value → World → Prop} {x0 : Option Addr} {x1 : Value} {w : World} (h : S_raft_Raft_fresh R x0 x1 w) : CallP P F_raft_Raft_fresh [.pointer x0, x1] w R := calls_of_denF (an := an_raft_Raft_fresh) Try.func34 (by rw [e_raft_Raft_fresh]; exact h)


/-- (*penstock/raft.Raft).send -/
def S_raft_Raft_send (R : Value → World → Prop) (x0 : Option Addr) (x1 : Value) (w : World) : Prop :=
 RunK .addr P (Instr.box T_api_RMsg x1) w fun (a0 : Addr) w1 =>
 nilCk x0 fun (a2 : Addr) =>
  RunQ (.int .i64) P (Instr.loadAt T_int (.pointer (some (a2.add 0)))) w1 fun (n3 : Int) =>
   StoreP P T_int (.pointer (some (Go.Addr.add a0 1))) (.int .i64 n3) w1 fun w4 =>
    ∃ S5 : World → Prop, (S5 w4.drew) ∧
      nilCk x0 fun (a6 : Addr) =>
       HRun S5 .val P (Instr.loadAt T_api_RMsg (.pointer (some a0))) fun (v7 : Value) =>
        (RunQ .sl P (Instr.loadAt T_sl_api_RMsg (.pointer (some ((a6.add 17).add 7)))) w4.drew fun (s8 : Sl) =>
          (S5 w4.drew) ∧
           RunK .sl P (Instr.buildSlice T_sl_api_RMsg 1 #[(0, v7)]) w4.drew fun (s9 : Sl) w10 =>
            (S5 w10) ∧
             RunK .sl P (Builtin.append_ #[T_sl_api_RMsg, T_sl_api_RMsg] T_sl_api_RMsg #[s8.v, s9.v]) w10 fun (s11 : Sl) w12 =>
              (S5 w12) ∧
               nilCk x0 fun (a13 : Addr) =>
                StoreP P T_sl_api_RMsg (.pointer (some ((a13.add 17).add 7))) s11.v w12 fun w14 =>
                (S5 w14) ∧
                R (.tuple #[]) w14) ∧
         (RunK .sl P (Instr.buildSlice T_sl_api_RMsg 1 #[(0, v7)]) w4.drew fun (s15 : Sl) w16 =>
           (S5 w16) ∧
            RunQ .sl P (Instr.loadAt T_sl_api_RMsg (.pointer (some ((a6.add 17).add 7)))) w16 fun (s17 : Sl) =>
             (S5 w16) ∧
              RunK .sl P (Builtin.append_ #[T_sl_api_RMsg, T_sl_api_RMsg] T_sl_api_RMsg #[s17.v, s15.v]) w16 fun (s18 : Sl) w19 =>
               (S5 w19) ∧
                nilCk x0 fun (a20 : Addr) =>
                StoreP P T_sl_api_RMsg (.pointer (some ((a20.add 17).add 7))) s18.v w19 fun w21 =>
                (S5 w21) ∧
                R (.tuple #[]) w21) ∧
          True
def an_raft_Raft_send : Ann := ⟨[], [], [2]⟩
theorem e_raft_Raft_send (R : Value → World → Prop) (x0 : Option Addr) (x1 : Value) (w : World) : denF P an_raft_Raft_send Try.f35 [.pointer x0, x1] w R = S_raft_Raft_send R x0 x1 w := by kernel_rfl
theorem c_raft_Raft_send {R : Value → World → Prop} {x0 : Option Addr} {x1 : Value} {w : World} (h : S_raft_Raft_send R x0 x1 w) : CallP P F_raft_Raft_send [.pointer x0, x1] w R := calls_of_denF (an := an_raft_Raft_send) Try.func35 (by rw [e_raft_Raft_send]; exact h)


/-- (*penstock/raft.Raft).prevoted -/
def S_raft_Raft_prevoted (R : Value → World → Prop) (x0 : Option Addr) (x1 : Value) (w : World) : Prop :=
 RunK .addr P (Instr.box T_api_RMsg x1) w fun (a0 : Addr) w1 =>
 RunQ .bool P (Instr.loadAt T_bool (.pointer (some (Go.Addr.add a0 7)))) w1.drew fun (b2 : Bool) =>
  ifB b2
   (RunQ (.int .i64) P (Instr.loadAt T_int (.pointer (some (Go.Addr.add a0 3)))) w1.drew fun (n3 : Int) =>
    nilCk x0 fun (a4 : Addr) =>
     RunQ (.int .i64) P (Instr.loadAt T_int (.pointer (some ((a4.add 2).add 0)))) w1.drew fun (n5 : Int) =>
      ifB (decide (n3 > n5))
       (RunQ (.int .i64) P (Instr.loadAt T_int (.pointer (some (Go.Addr.add a0 3)))) w1.drew fun (n6 : Int) =>
        CallP P F_raft_Raft_follow [(.pointer x0), (.int .i64 n6), (.int .i64 (-1))] w1.drew fun (v7 : Value) w8 =>
         TupP [] v7 fun (t9 : Unit) =>
          R (.tuple #[]) w8)
       (RunQ .bool P (Instr.loadAt T_bool (.pointer (some (Go.Addr.add a0 7)))) w1.drew.drew fun (b10 : Bool) =>
        ifB (!b10)
         (nilCk x0 fun (a11 : Addr) =>
          RunQ (.int .i64) P (Instr.loadAt T_int (.pointer (some (a11.add 8)))) w1.drew.drew fun (n12 : Int) =>
           ifB (n12 == 1)
            (RunQ (.int .i64) P (Instr.loadAt T_int (.pointer (some (Go.Addr.add a0 3)))) w1.drew.drew fun (n13 : Int) =>
             nilCk x0 fun (a14 : Addr) =>
              RunQ (.int .i64) P (Instr.loadAt T_int (.pointer (some ((a14.add 2).add 0)))) w1.drew.drew fun (n15 : Int) =>
               ifB (n13 == IntKind.i64.wrap (n15 + 1))
                (∃ S16 : World → Prop, (S16 w1.drew.drew.drew) ∧
                nilCk x0 fun (a17 : Addr) =>
                HRun S16 .map P (Instr.loadAt T_map_int_bool (.pointer (some (a17.add 14)))) fun (m18 : Option Nat) =>
                HRun S16 (.int .i64) P (Instr.loadAt T_int (.pointer (some (Go.Addr.add a0 1)))) fun (n19 : Int) =>
                RunU P (Instr.mapUpdate T_map_int_bool (.map m18) (.int .i64 n19) (.bool true)) w1.drew.drew.drew fun w20 =>
                (S16 w20) ∧
                CallP P F_raft_Raft_count [(.pointer x0)] w20 fun (v21 : Value) w22 =>
                TupP [] v21 fun (t23 : Unit) =>
                R (.tuple #[]) w22)
                (R (.tuple #[]) w1.drew.drew))
            (R (.tuple #[]) w1.drew.drew))
         (R (.tuple #[]) w1.drew.drew)))
   (RunQ .bool P (Instr.loadAt T_bool (.pointer (some (Go.Addr.add a0 7)))) w1.drew.drew fun (b24 : Bool) =>
    ifB (!b24)
     (nilCk x0 fun (a25 : Addr) =>
      RunQ (.int .i64) P (Instr.loadAt T_int (.pointer (some (a25.add 8)))) w1.drew.drew fun (n26 : Int) =>
       ifB (n26 == 1)
        (RunQ (.int .i64) P (Instr.loadAt T_int (.pointer (some (Go.Addr.add a0 3)))) w1.drew.drew fun (n27 : Int) =>
         nilCk x0 fun (a28 : Addr) =>
          RunQ (.int .i64) P (Instr.loadAt T_int (.pointer (some ((a28.add 2).add 0)))) w1.drew.drew fun (n29 : Int) =>
           ifB (n27 == IntKind.i64.wrap (n29 + 1))
            (∃ S30 : World → Prop, (S30 w1.drew.drew.drew) ∧
              nilCk x0 fun (a31 : Addr) =>
               HRun S30 .map P (Instr.loadAt T_map_int_bool (.pointer (some (a31.add 14)))) fun (m32 : Option Nat) =>
                HRun S30 (.int .i64) P (Instr.loadAt T_int (.pointer (some (Go.Addr.add a0 1)))) fun (n33 : Int) =>
                RunU P (Instr.mapUpdate T_map_int_bool (.map m32) (.int .i64 n33) (.bool true)) w1.drew.drew.drew fun w34 =>
                (S30 w34) ∧
                CallP P F_raft_Raft_count [(.pointer x0)] w34 fun (v35 : Value) w36 =>
                TupP [] v35 fun (t37 : Unit) =>
                R (.tuple #[]) w36)
            (R (.tuple #[]) w1.drew.drew))
        (R (.tuple #[]) w1.drew.drew))
     (R (.tuple #[]) w1.drew.drew))
def an_raft_Raft_prevoted : Ann := ⟨[], [], []⟩
theorem e_raft_Raft_prevoted (R : Value → World → Prop) (x0 : Option Addr) (x1 : Value) (w : World) : denF P an_raft_Raft_prevoted Try.f36 [.pointer x0, x1] w R = S_raft_Raft_prevoted R x0 x1 w := by kernel_rfl
theorem c_raft_Raft_prevoted {R : Value → World → Prop} {x0 : Option Addr} {x1 : Value} {w : World} (h : S_raft_Raft_prevoted R x0 x1 w) : CallP P F_raft_Raft_prevoted [.pointer x0, x1] w R := calls_of_denF (an := an_raft_Raft_prevoted) Try.func36 (by rw [e_raft_Raft_prevoted]; exact h)


/-- (*penstock/raft.Raft).follow -/
def S_raft_Raft_follow (R : Value → World → Prop) (x0 : Option Addr) (x1 : Int) (x2 : Int) (w : World) : Prop :=
 JoinP (T := Unit) (fun J0 =>
 nilCk x0 fun (a3 : Addr) =>
  RunQ (.int .i64) P (Instr.loadAt T_int (.pointer (some ((a3.add 2).add 0)))) w fun (n4 : Int) =>
   ifB (decide (x1 > n4))
    (nilCk x0 fun (a5 : Addr) =>
     StoreP P T_int (.pointer (some ((a5.add 2).add 0))) (.int .i64 x1) w fun w6 =>
      nilCk x0 fun (a7 : Addr) =>
       StoreP P T_int (.pointer (some ((a7.add 2).add 1))) (.int .i64 (-1)) w6 fun w8 =>
        nilCk x0 fun (a9 : Addr) =>
         StoreP P T_bool (.pointer (some ((a9.add 17).add 0))) (.bool true) w8 fun w10 =>
          J0 (some ()) w10)
    (J0 (some ()) w))
 fun t1 w2 =>
 nilCk x0 fun (a11 : Addr) =>
  StoreP P T_int (.pointer (some (a11.add 8))) (.int .i64 0) w2 fun w12 =>
   nilCk x0 fun (a13 : Addr) =>
    StoreP P T_int (.pointer (some (a13.add 9))) (.int .i64 x2) w12 fun w14 =>
     nilCk x0 fun (a15 : Addr) =>
      StoreP P T_map_int_bool (.pointer (some (a15.add 14))) (.map none) w14 fun w16 =>
       R (.tuple #[]) w16
def an_raft_Raft_follow : Ann := ⟨[(3, [])], [], []⟩
theorem e_raft_Raft_follow (R : Value → World → Prop) (x0 : Option Addr) (x1 : Int) (x2 : Int) (w : World) : denF P an_raft_Raft_follow Try.f37 [.pointer x0, .int .i64 x1, .int .i64 x2] w R = S_raft_Raft_follow R x0 x1 x2 w := by kernel_rfl
theorem c_raft_Raft_follow {R : Value → World → Prop} {x0 : Option Addr} {x1 : Int} {x2 : Int} {w : World} (h : S_raft_Raft_follow R x0 x1 x2 w) : CallP P F_raft_Raft_follow [.pointer x0, .int .i64 x1, .int .i64 x2] w R := calls_of_denF (an := an_raft_Raft_follow) Try.func37 (by rw [e_raft_Raft_follow]; exact h)


/-- (*penstock/raft.Raft).now -/
def S_raft_Raft_now (R : Value → World → Prop) (x0 : Option Addr) (x1 : Value) (w : World) : Prop :=
 RunK .addr P (Instr.box T_api_RMsg x1) w fun (a0 : Addr) w1 =>
 RunQ (.int .i64) P (Instr.loadAt T_int (.pointer (some (Go.Addr.add a0 0)))) w1 fun (n2 : Int) =>
  ifB (n2 == 3)
   (JoinP (T := Bool × Unit) (fun J3 =>
    ∃ S6 : World → Prop, (S6 w1.drew) ∧
      nilCk x0 fun (a7 : Addr) =>
       HRun S6 (.int .i64) P (Instr.loadAt T_int (.pointer (some ((a7.add 2).add 1)))) fun (n8 : Int) =>
        ifB (decide (n8 < 0))
         (HRun S6 .val P (Instr.loadAt T_api_RMsg (.pointer (some a0))) fun (v9 : Value) =>
          CallP P F_raft_Raft_fresh [(.pointer x0), v9] w1.drew fun (v10 : Value) w11 =>
           TyP .bool v10 fun (b12 : Bool) =>
            (S6 w11) ∧
             J3 (some (b12, ())) w11)
         (nilCk x0 fun (a13 : Addr) =>
          HRun S6 (.int .i64) P (Instr.loadAt T_int (.pointer (some ((a13.add 2).add 1)))) fun (n14 : Int) =>
           HRun S6 (.int .i64) P (Instr.loadAt T_int (.pointer (some (Go.Addr.add a0 1)))) fun (n15 : Int) =>
            ifB (n14 == n15)
             (HRun S6 .val P (Instr.loadAt T_api_RMsg (.pointer (some a0))) fun (v16 : Value) =>
              CallP P F_raft_Raft_fresh [(.pointer x0), v16] w1.drew fun (v17 : Value) w18 =>
               TyP .bool v17 fun (b19 : Bool) =>
                (S6 w18) ∧
                J3 (some (b19, ())) w18)
             (J3 (some (false, ())) w1.drew)))
    fun t4 w5 =>
    JoinP (T := Unit) (fun J20 =>
     ifB t4.fst
      (JoinP (T := Unit) (fun J23 =>
       ∃ S26 : World → Prop, (S26 w5.drew) ∧
         nilCk x0 fun (a27 : Addr) =>
          RunQ .bool P (Instr.loadAt T_bool (.pointer (some ((a27.add 17).add 0)))) w5.drew fun (b28 : Bool) =>
           (S26 w5.drew) ∧
            ifB b28
             (nilCk x0 fun (a29 : Addr) =>
              StoreP P T_bool (.pointer (some ((a29.add 17).add 0))) (.bool true) w5.drew fun w30 =>
               (S26 w30) ∧
                J23 (some ()) w30)
             (nilCk x0 fun (a31 : Addr) =>
              HRun S26 (.int .i64) P (Instr.loadAt T_int (.pointer (some ((a31.add 2).add 1)))) fun (n32 : Int) =>
               HRun S26 (.int .i64) P (Instr.loadAt T_int (.pointer (some (Go.Addr.add a0 1)))) fun (n33 : Int) =>
                nilCk x0 fun (a34 : Addr) =>
                StoreP P T_bool (.pointer (some ((a34.add 17).add 0))) (.bool (n32 != n33)) w5.drew fun w35 =>
                (S26 w35) ∧
                J23 (some ()) w35))
       fun t24 w25 =>
       RunQ (.int .i64) P (Instr.loadAt T_int (.pointer (some (Go.Addr.add a0 1)))) w25 fun (n36 : Int) =>
        nilCk x0 fun (a37 : Addr) =>
         StoreP P T_int (.pointer (some ((a37.add 2).add 1))) (.int .i64 n36) w25 fun w38 =>
          nilCk x0 fun (a39 : Addr) =>
           StoreP P T_int (.pointer (some (a39.add 12))) (.int .i64 0) w38 fun w40 =>
            J20 (some ()) w40)
      (J20 (some ()) w5))
     fun t21 w22 =>
     ∃ S41 : World → Prop, (S41 w22.drew) ∧
       HRun S41 (.int .i64) P (Instr.loadAt T_int (.pointer (some (Go.Addr.add a0 1)))) fun (n42 : Int) =>
        nilCk x0 fun (a43 : Addr) =>
         HRun S41 (.int .i64) P (Instr.loadAt T_int (.pointer (some ((a43.add 2).add 0)))) fun (n44 : Int) =>
          CallP P F_raft_Raft_send [(.pointer x0), (.agg #[(.int .i64 4), (.int .i64 0), (.int .i64 n42), (.int .i64 n44), (.int .i64 0), (.int .i64 0), (.int .i64 0), (.bool (!t4.fst)), (.slice none 0 0), (.slice none 0 0)])] w22.drew fun (v45 : Value) w46 =>
           TupP [] v45 fun (t47 : Unit) =>
            (S41 w46) ∧
             R (.tuple #[]) w46)
   (ifB (n2 == 4)
    (nilCk x0 fun (a48 : Addr) =>
     RunQ (.int .i64) P (Instr.loadAt T_int (.pointer (some (a48.add 8)))) w1 fun (n49 : Int) =>
      ifB (n49 == 2)
       (RunQ .bool P (Instr.loadAt T_bool (.pointer (some (Go.Addr.add a0 7)))) w1 fun (b50 : Bool) =>
        ifB (!b50)
         (∃ S51 : World → Prop, (S51 w1.drew) ∧
           nilCk x0 fun (a52 : Addr) =>
            HRun S51 .map P (Instr.loadAt T_map_int_bool (.pointer (some (a52.add 14)))) fun (m53 : Option Nat) =>
             HRun S51 (.int .i64) P (Instr.loadAt T_int (.pointer (some (Go.Addr.add a0 1)))) fun (n54 : Int) =>
              RunU P (Instr.mapUpdate T_map_int_bool (.map m53) (.int .i64 n54) (.bool true)) w1.drew fun w55 =>
               (S51 w55) ∧
                CallP P F_raft_Raft_count [(.pointer x0)] w55 fun (v56 : Value) w57 =>
                TupP [] v56 fun (t58 : Unit) =>
                R (.tuple #[]) w57)
         (R (.tuple #[]) w1))
       (R (.tuple #[]) w1))
    (ifB (n2 == 5)
     (nilCk x0 fun (a59 : Addr) =>
      RunQ (.int .i64) P (Instr.loadAt T_int (.pointer (some (a59.add 8)))) w1 fun (n60 : Int) =>
       ifB (n60 == 3)
        (R (.tuple #[]) w1)
        (RunQ (.int .i64) P (Instr.loadAt T_int (.pointer (some (Go.Addr.add a0 3)))) w1 fun (n61 : Int) =>
         RunQ (.int .i64) P (Instr.loadAt T_int (.pointer (some (Go.Addr.add a0 1)))) w1 fun (n62 : Int) =>
          CallP P F_raft_Raft_follow [(.pointer x0), (.int .i64 n61), (.int .i64 n62)] w1 fun (v63 : Value) w64 =>
           TupP [] v63 fun (t65 : Unit) =>
            nilCk x0 fun (a66 : Addr) =>
             StoreP P T_int (.pointer (some (a66.add 12))) (.int .i64 0) w64 fun w67 =>
              RunQ (.int .i64) P (Instr.loadAt T_int (.pointer (some (Go.Addr.add a0 0)))) w67 fun (n68 : Int) =>
               ifB (n68 == 5)
                (RunQ .val P (Instr.loadAt T_api_RMsg (.pointer (some a0))) w67 fun (v69 : Value) =>
                CallP P F_raft_Raft_take [(.pointer x0), v69] w67 fun (v70 : Value) w71 =>
                TupP [] v70 fun (t72 : Unit) =>
                R (.tuple #[]) w71)
                (RunQ .val P (Instr.loadAt T_api_RMsg (.pointer (some a0))) w67 fun (v73 : Value) =>
                CallP P F_raft_Raft_install [(.pointer x0), v73] w67 fun (v74 : Value) w75 =>
                TupP [] v74 fun (t76 : Unit) =>
                R (.tuple #[]) w75)))
     (ifB (n2 == 7)
      (nilCk x0 fun (a77 : Addr) =>
       RunQ (.int .i64) P (Instr.loadAt T_int (.pointer (some (a77.add 8)))) w1 fun (n78 : Int) =>
        ifB (n78 == 3)
         (R (.tuple #[]) w1)
         (RunQ (.int .i64) P (Instr.loadAt T_int (.pointer (some (Go.Addr.add a0 3)))) w1 fun (n79 : Int) =>
          RunQ (.int .i64) P (Instr.loadAt T_int (.pointer (some (Go.Addr.add a0 1)))) w1 fun (n80 : Int) =>
           CallP P F_raft_Raft_follow [(.pointer x0), (.int .i64 n79), (.int .i64 n80)] w1 fun (v81 : Value) w82 =>
            TupP [] v81 fun (t83 : Unit) =>
             nilCk x0 fun (a84 : Addr) =>
              StoreP P T_int (.pointer (some (a84.add 12))) (.int .i64 0) w82 fun w85 =>
               RunQ (.int .i64) P (Instr.loadAt T_int (.pointer (some (Go.Addr.add a0 0)))) w85 fun (n86 : Int) =>
                ifB (n86 == 5)
                (RunQ .val P (Instr.loadAt T_api_RMsg (.pointer (some a0))) w85 fun (v87 : Value) =>
                CallP P F_raft_Raft_take [(.pointer x0), v87] w85 fun (v88 : Value) w89 =>
                TupP [] v88 fun (t90 : Unit) =>
                R (.tuple #[]) w89)
                (RunQ .val P (Instr.loadAt T_api_RMsg (.pointer (some a0))) w85 fun (v91 : Value) =>
                CallP P F_raft_Raft_install [(.pointer x0), v91] w85 fun (v92 : Value) w93 =>
                TupP [] v92 fun (t94 : Unit) =>
                R (.tuple #[]) w93)))
      (ifB (n2 == 6)
       (RunQ .val P (Instr.loadAt T_api_RMsg (.pointer (some a0))) w1 fun (v95 : Value) =>
        CallP P F_raft_Raft_appended [(.pointer x0), v95] w1 fun (v96 : Value) w97 =>
         TupP [] v96 fun (t98 : Unit) =>
          R (.tuple #[]) w97)
       (R (.tuple #[]) w1)))))
def an_raft_Raft_now : Ann := ⟨[(6, []), (8, []), (4, [(4, .bool)])], [], [5]⟩
theorem e_raft_Raft_now (R : Value → World → Prop) (x0 : Option Addr) (x1 : Value) (w : World) : denF P an_raft_Raft_now Try.f38 [.pointer x0, x1] w R = S_raft_Raft_now R x0 x1 w := by kernel_rfl
theorem c_raft_Raft_now {R : Value → World → Prop} {x0 : Option Addr} {x1 : Value} {w : World} (h : S_raft_Raft_now R x0 x1 w) : CallP P F_raft_Raft_now [.pointer x0, x1] w R := calls_of_denF (an := an_raft_Raft_now) Try.func38 (by rw [e_raft_Raft_now]; exact h)


/-- (*penstock/raft.Raft).term -/
def S_raft_Raft_term (R : Value → World → Prop) (x0 : Option Addr) (x1 : Int) (w : World) : Prop :=
 JoinP (T := Unit) (fun J0 =>
 nilCk x0 fun (a3 : Addr) =>
  RunQ (.int .i64) P (Instr.loadAt T_int (.pointer (some ((a3.add 2).add 2)))) w fun (n4 : Int) =>
   ifB (x1 == n4)
    (nilCk x0 fun (a5 : Addr) =>
     RunQ (.int .i64) P (Instr.loadAt T_int (.pointer (some ((a5.add 2).add 3)))) w fun (n6 : Int) =>
      R (.tuple #[(.int .i64 n6), (.bool true)]) w)
    (nilCk x0 fun (a7 : Addr) =>
     RunQ (.int .i64) P (Instr.loadAt T_int (.pointer (some ((a7.add 2).add 2)))) w fun (n8 : Int) =>
      ifB (decide (x1 < n8))
       (R (.tuple #[(.int .i64 0), (.bool false)]) w)
       (CallP P F_raft_Raft_last [(.pointer x0)] w fun (v9 : Value) w10 =>
        TyP (.int .i64) v9 fun (n11 : Int) =>
         ifB (decide (x1 > n11))
          (R (.tuple #[(.int .i64 0), (.bool false)]) w10)
          (J0 (some ()) w10))))
 fun t1 w2 =>
 nilCk x0 fun (a12 : Addr) =>
  RunQ .sl P (Instr.loadAt T_sl_api_Entry (.pointer (some ((a12.add 2).add 5)))) w2.drew fun (s13 : Sl) =>
   nilCk x0 fun (a14 : Addr) =>
    RunQ (.int .i64) P (Instr.loadAt T_int (.pointer (some ((a14.add 2).add 2)))) w2.drew fun (n15 : Int) =>
     RunQ .addr P (Instr.indexAt T_sl_api_Entry s13.v (.int .i64 (IntKind.i64.wrap (IntKind.i64.wrap (x1 - n15) - 1)))) w2.drew fun (a16 : Addr) =>
      RunQ (.int .i64) P (Instr.loadAt T_int (.pointer (some (Go.Addr.add a16 0)))) w2.drew fun (n17 : Int) =>
       R (.tuple #[(.int .i64 n17), (.bool true)]) w2.drew
def an_raft_Raft_term : Ann := ⟨[(5, [])], [], []⟩
theorem e_raft_Raft_term (R : Value → World → Prop) (x0 : Option Addr) (x1 : Int) (w : World) : denF P an_raft_Raft_term Try.f39 [.pointer x0, .int .i64 x1] w R = S_raft_Raft_term R x0 x1 w := by kernel_rfl
theorem c_raft_Raft_term {R : Value → World → Prop} {x0 : Option Addr} {x1 : Int} {w : World} (h : S_raft_Raft_term R x0 x1 w) : CallP P F_raft_Raft_term [.pointer x0, .int .i64 x1] w R := calls_of_denF (an := an_raft_Raft_term) Try.func39 (by rw [e_raft_Raft_term]; exact h)


/-- penstock/raft.entries -/
def S_raft_entries (R : Value → World → Prop) (x0 : Sl) (w : World) : Prop :=
 LoopP (T := Sl × Int × Unit) (some (⟨none, 0, 0⟩, (0, ()))) w fun next0 t1 w2 =>
 ifB (decide (t1.snd.fst < (↑x0.len : Int)))
  (RunQ .addr P (Instr.indexAt T_sl_api_Entry x0.v (.int .i64 t1.snd.fst)) w2 fun (a3 : Addr) =>
   RunQ .val P (Instr.loadAt T_api_Entry (.pointer (some a3))) w2 fun (v4 : Value) =>
    RunK .addr P (Instr.alloc T_api_Entry true (.tuple #[])) w2 fun (a5 : Addr) w6 =>
     StoreP P T_api_Entry (.pointer (some a5)) v4 w6 fun w7 =>
      ∃ S8 : World → Prop, (S8 w7.drew) ∧
        HRun S8 (.int .i64) P (Instr.loadAt T_int (.pointer (some (Go.Addr.add a5 0)))) fun (n9 : Int) =>
         HRun S8 .sl P (Instr.loadAt T_sl_uint8 (.pointer (some (Go.Addr.add a5 1)))) fun (s10 : Sl) =>
          RunK .sl P (Builtin.append_ #[T_sl_uint8, T_sl_uint8] T_sl_uint8 #[(.slice none 0 0), s10.v]) w7.drew fun (s11 : Sl) w12 =>
           (S8 w12) ∧
            RunK .sl P (Instr.buildSlice T_sl_api_Entry 1 #[(0, (.agg #[(.int .i64 n9), s11.v]))]) w12 fun (s13 : Sl) w14 =>
             (S8 w14) ∧
              RunK .sl P (Builtin.append_ #[T_sl_api_Entry, T_sl_api_Entry] T_sl_api_Entry #[t1.fst.v, s13.v]) w14 fun (s15 : Sl) w16 =>
               (S8 w16) ∧
                next0 (some (s15, ((IntKind.i64.wrap (t1.snd.fst + 1)), ()))) w16)
  (R t1.fst.v w2)
def an_raft_entries : Ann := ⟨[], [(3, [(3, .sl), (8, (.int .i64))])], []⟩
theorem e_raft_entries (R : Value → World → Prop) (x0 : Sl) (w : World) : denF P an_raft_entries Try.f40 [x0.v] w R = S_raft_entries R x0 w := by kernel_rfl
theorem c_raft_entries {R : Value → World → Prop} {x0 : Sl} {w : World} (h : S_raft_entries R x0 w) : CallP P F_raft_entries [x0.v] w R := calls_of_denF (an := an_raft_entries) Try.func40 (by rw [e_raft_entries]; exact h)


/-- (*penstock/raft.Raft).feed -/
def S_raft_Raft_feed (R : Value → World → Prop) (x0 : Option Addr) (x1 : Int) (w : World) : Prop :=
 nilCk x0 fun (a0 : Addr) =>
 RunQ .sl P (Instr.loadAt T_sl_int (.pointer (some (a0.add 15)))) w fun (s1 : Sl) =>
  RunQ .addr P (Instr.indexAt T_sl_int s1.v (.int .i64 x1)) w fun (a2 : Addr) =>
   RunQ (.int .i64) P (Instr.loadAt T_int (.pointer (some a2))) w fun (n3 : Int) =>
    CallP P F_raft_Raft_term [(.pointer x0), (.int .i64 (IntKind.i64.wrap (n3 - 1)))] w fun (v4 : Value) w5 =>
     TupP [(.int .i64), .bool] v4 fun (t6 : Int × Bool × Unit) =>
      ifB (!t6.snd.fst)
       (∃ S7 : World → Prop, (S7 w5.drew) ∧
         nilCk x0 fun (a8 : Addr) =>
          HRun S7 (.int .i64) P (Instr.loadAt T_int (.pointer (some ((a8.add 2).add 0)))) fun (n9 : Int) =>
           nilCk x0 fun (a10 : Addr) =>
            HRun S7 (.int .i64) P (Instr.loadAt T_int (.pointer (some ((a10.add 2).add 2)))) fun (n11 : Int) =>
             nilCk x0 fun (a12 : Addr) =>
              HRun S7 (.int .i64) P (Instr.loadAt T_int (.pointer (some ((a12.add 2).add 3)))) fun (n13 : Int) =>
               nilCk x0 fun (a14 : Addr) =>
                HRun S7 (.int .i64) P (Instr.loadAt T_int (.pointer (some (a14.add 10)))) fun (n15 : Int) =>
                nilCk x0 fun (a16 : Addr) =>
                HRun S7 .sl P (Instr.loadAt T_sl_uint8 (.pointer (some ((a16.add 2).add 4)))) fun (s17 : Sl) =>
                RunK .sl P (Builtin.append_ #[T_sl_uint8, T_sl_uint8] T_sl_uint8 #[(.slice none 0 0), s17.v]) w5.drew fun (s18 : Sl) w19 =>
                (S7 w19) ∧
                CallP P F_raft_Raft_send [(.pointer x0), (.agg #[(.int .i64 7), (.int .i64 0), (.int .i64 x1), (.int .i64 n9), (.int .i64 n11), (.int .i64 n13), (.int .i64 n15), (.bool false), (.slice none 0 0), s18.v])] w19 fun (v20 : Value) w21 =>
                TupP [] v20 fun (t22 : Unit) =>
                (S7 w21) ∧
                R (.tuple #[]) w21)
       (nilCk x0 fun (a23 : Addr) =>
        RunQ .sl P (Instr.loadAt T_sl_api_Entry (.pointer (some ((a23.add 2).add 5)))) w5.drew fun (s24 : Sl) =>
         nilCk x0 fun (a25 : Addr) =>
          RunQ (.int .i64) P (Instr.loadAt T_int (.pointer (some ((a25.add 2).add 2)))) w5.drew fun (n26 : Int) =>
           RunQ .sl P (Instr.sliceAt T_sl_api_Entry s24.v (some (.int .i64 (IntKind.i64.wrap (IntKind.i64.wrap (n3 - 1) - n26)))) none none) w5.drew fun (s27 : Sl) =>
            ∃ S28 : World → Prop, (S28 w5.drew.drew) ∧
              nilCk x0 fun (a29 : Addr) =>
               HRun S28 (.int .i64) P (Instr.loadAt T_int (.pointer (some ((a29.add 2).add 0)))) fun (n30 : Int) =>
                nilCk x0 fun (a31 : Addr) =>
                HRun S28 (.int .i64) P (Instr.loadAt T_int (.pointer (some (a31.add 10)))) fun (n32 : Int) =>
                HRun S28 .sl P (Instr.sliceAt T_sl_api_Entry s27.v none (some (.int .i64 (if 16 < (↑s27.len : Int) then 16 else (↑s27.len : Int)))) none) fun (s33 : Sl) =>
                CallP P F_raft_entries [s33.v] w5.drew.drew fun (v34 : Value) w35 =>
                TyP .sl v34 fun (s36 : Sl) =>
                (S28 w35) ∧
                CallP P F_raft_Raft_send [(.pointer x0), (.agg #[(.int .i64 5), (.int .i64 0), (.int .i64 x1), (.int .i64 n30), (.int .i64 (IntKind.i64.wrap (n3 - 1))), (.int .i64 t6.fst), (.int .i64 n32), (.bool false), s36.v, (.slice none 0 0)])] w35 fun (v37 : Value) w38 =>
                TupP [] v37 fun (t39 : Unit) =>
                (S28 w38) ∧
                R (.tuple #[]) w38)
def an_raft_Raft_feed : Ann := ⟨[], [], []⟩
theorem e_raft_Raft_feed (R : Value → World → Prop) (x0 : Option Addr) (x1 : Int) (w : World) : denF P an_raft_Raft_feed Try.f41 [.pointer x0, .int .i64 x1] w R = S_raft_Raft_feed R x0 x1 w := by kernel_rfl
theorem c_raft_Raft_feed {R : Value → World → Prop} {x0 : Option Addr} {x1 : Int} {w : World} (h : S_raft_Raft_feed R x0 x1 w) : CallP P F_raft_Raft_feed [.pointer x0, .int .i64 x1] w R := calls_of_denF (an := an_raft_Raft_feed) Try.func41 (by rw [e_raft_Raft_feed]; exact h)


/-- (*penstock/raft.Raft).count -/
def S_raft_Raft_count (R : Value → World → Prop) (x0 : Option Addr) (w : World) : Prop :=
 nilCk x0 fun (a0 : Addr) =>
 RunQ .map P (Instr.loadAt T_map_int_bool (.pointer (some (a0.add 14)))) w fun (m1 : Option Nat) =>
  RunK .addr P (Instr.range T_map_int_bool (.map m1)) w fun (a2 : Addr) w3 =>
   LoopP (T := Int × Unit) (some (0, ())) w3 fun next4 t5 w6 =>
    NextP P (Instr.next (.pointer (some a2)) false 0) w6 (fun w10 =>
     nilCk x0 fun (a11 : Addr) =>
      RunQ (.int .i64) P (Instr.loadAt T_int (.pointer (some (a11.add 1)))) w10 fun (n12 : Int) =>
       ifB (decide (IntKind.i64.wrap (2 * t5.fst) ≤ n12))
        (R (.tuple #[]) w10)
        (nilCk x0 fun (a13 : Addr) =>
         RunQ (.int .i64) P (Instr.loadAt T_int (.pointer (some (a13.add 8)))) w10 fun (n14 : Int) =>
          ifB (n14 == 1)
           (CallP P F_raft_Raft_ask [(.pointer x0), (.int .i64 2)] w10 fun (v15 : Value) w16 =>
            TupP [] v15 fun (t17 : Unit) =>
             R (.tuple #[]) w16)
           (CallP P F_raft_Raft_lead [(.pointer x0)] w10 fun (v18 : Value) w19 =>
            TupP [] v18 fun (t20 : Unit) =>
             R (.tuple #[]) w19))) fun (v7 v8 : Value) w9 =>
     TyP .val v7 fun (v21 : Value) =>
      TyP .val v8 fun (v22 : Value) =>
       RunV P (Instr.entry (.pointer (some a2))) w9 fun (v23 : Value) w24 =>
        EntP (.val, .bool) v23 fun (v25 : Value) (b26 : Bool) =>
         ifB b26
          (next4 (some ((IntKind.i64.wrap (t5.fst + 1)), ())) w24)
          (next4 (some (t5.fst, ())) w24)
def an_raft_Raft_count : Ann := ⟨[], [(2, [(2, (.int .i64))])], []⟩
theorem e_raft_Raft_count (R : Value → World → Prop) (x0 : Option Addr) (w : World) : denF P an_raft_Raft_count Try.f42 [.pointer x0] w R = S_raft_Raft_count R x0 w := by kernel_rfl
theorem c_raft_Raft_count {R : Value → World → Prop} {x0 : Option Addr} {w : World} (h : S_raft_Raft_count R x0 w) : CallP P F_raft_Raft_count [.pointer x0] w R := calls_of_denF (an := an_raft_Raft_count) Try.func42 (by rw [e_raft_Raft_count]; exact h)


/-- (*penstock/raft.Raft).advance -/
def S_raft_Raft_advance (R : Value → World → Prop) (x0 : Option Addr) (w : World) : Prop :=
 CallP P F_raft_Raft_last [(.pointer x0)] w fun (v0 : Value) w1 =>
 TyP (.int .i64) v0 fun (n2 : Int) =>
  LoopP (T := Int × Unit) (some (n2, ())) w1 fun next3 t4 w5 =>
   nilCk x0 fun (a6 : Addr) =>
    RunQ (.int .i64) P (Instr.loadAt T_int (.pointer (some (a6.add 10)))) w5 fun (n7 : Int) =>
     ifB (decide (t4.fst > n7))
      (CallP P F_raft_Raft_term [(.pointer x0), (.int .i64 t4.fst)] w5 fun (v8 : Value) w9 =>
       TupP [(.int .i64), .bool] v8 fun (t10 : Int × Bool × Unit) =>
        nilCk x0 fun (a11 : Addr) =>
         RunQ (.int .i64) P (Instr.loadAt T_int (.pointer (some ((a11.add 2).add 0)))) w9 fun (n12 : Int) =>
          ifB (t10.fst != n12)
           (R (.tuple #[]) w9)
           (nilCk x0 fun (a13 : Addr) =>
            RunQ .sl P (Instr.loadAt T_sl_int (.pointer (some (a13.add 16)))) w9 fun (s14 : Sl) =>
             LoopP (T := Int × Int × Unit) (some (0, (0, ()))) w9 fun next15 t16 w17 =>
              ifB (decide (t16.snd.fst < (↑s14.len : Int)))
               (RunQ .addr P (Instr.indexAt T_sl_int s14.v (.int .i64 t16.snd.fst)) w17 fun (a18 : Addr) =>
                RunQ (.int .i64) P (Instr.loadAt T_int (.pointer (some a18))) w17 fun (n19 : Int) =>
                ifB (decide (n19 ≥ t4.fst))
                (next15 (some ((IntKind.i64.wrap (t16.fst + 1)), ((IntKind.i64.wrap (t16.snd.fst + 1)), ()))) w17)
                (next15 (some (t16.fst, ((IntKind.i64.wrap (t16.snd.fst + 1)), ()))) w17))
               (nilCk x0 fun (a20 : Addr) =>
                RunQ (.int .i64) P (Instr.loadAt T_int (.pointer (some (a20.add 1)))) w17 fun (n21 : Int) =>
                ifB (decide (IntKind.i64.wrap (2 * t16.fst) > n21))
                (nilCk x0 fun (a22 : Addr) =>
                StoreP P T_int (.pointer (some (a22.add 10))) (.int .i64 t4.fst) w17 fun w23 =>
                R (.tuple #[]) w23)
                (next3 (some ((IntKind.i64.wrap (t4.fst - 1)), ())) w17))))
      (R (.tuple #[]) w5)
def an_raft_Raft_advance : Ann := ⟨[], [(7, [(5, (.int .i64)), (36, (.int .i64))]), (1, [(2, (.int .i64))])], []⟩
theorem e_raft_Raft_advance (R : Value → World → Prop) (x0 : Option Addr) (w : World) : denF P an_raft_Raft_advance Try.f43 [.pointer x0] w R = S_raft_Raft_advance R x0 w := by kernel_rfl
theorem c_raft_Raft_advance {R : Value → World → Prop} {x0 : Option Addr} {w : World} (h : S_raft_Raft_advance R x0 w) : CallP P F_raft_Raft_advance [.pointer x0] w R := calls_of_denF (an := an_raft_Raft_advance) Try.func43 (by rw [e_raft_Raft_advance]; exact h)


/-- (*penstock/raft.Raft).take -/
def S_raft_Raft_take (R : Value → World → Prop) (x0 : Option Addr) (x1 : Value) (w : World) : Prop :=
 RunK .addr P (Instr.box T_api_RMsg x1) w fun (a0 : Addr) w1 =>
 JoinP (T := Unit) (fun J2 =>
  RunQ (.int .i64) P (Instr.loadAt T_int (.pointer (some (Go.Addr.add a0 4)))) w1.drew fun (n5 : Int) =>
   nilCk x0 fun (a6 : Addr) =>
    RunQ (.int .i64) P (Instr.loadAt T_int (.pointer (some ((a6.add 2).add 2)))) w1.drew fun (n7 : Int) =>
     ifB (decide (n5 < n7))
      (nilCk x0 fun (a8 : Addr) =>
       RunQ (.int .i64) P (Instr.loadAt T_int (.pointer (some ((a8.add 2).add 2)))) w1.drew.drew fun (n9 : Int) =>
        RunQ (.int .i64) P (Instr.loadAt T_int (.pointer (some (Go.Addr.add a0 4)))) w1.drew.drew fun (n10 : Int) =>
         JoinP (T := Unit) (fun J11 =>
          RunQ (.int .i64) P (Instr.loadAt T_int (.pointer (some (Go.Addr.add a0 4)))) w1.drew.drew fun (n14 : Int) =>
           ifB (decide (n14 < 0))
            (∃ S15 : World → Prop, (S15 w1.drew.drew.drew) ∧
              HRun S15 (.int .i64) P (Instr.loadAt T_int (.pointer (some (Go.Addr.add a0 1)))) fun (n16 : Int) =>
               nilCk x0 fun (a17 : Addr) =>
                HRun S15 (.int .i64) P (Instr.loadAt T_int (.pointer (some ((a17.add 2).add 0)))) fun (n18 : Int) =>
                nilCk x0 fun (a19 : Addr) =>
                HRun S15 (.int .i64) P (Instr.loadAt T_int (.pointer (some (a19.add 10)))) fun (n20 : Int) =>
                CallP P F_raft_Raft_send [(.pointer x0), (.agg #[(.int .i64 6), (.int .i64 0), (.int .i64 n16), (.int .i64 n18), (.int .i64 n20), (.int .i64 0), (.int .i64 0), (.bool false), (.slice none 0 0), (.slice none 0 0)])] w1.drew.drew.drew fun (v21 : Value) w22 =>
                TupP [] v21 fun (t23 : Unit) =>
                (S15 w22) ∧
                R (.tuple #[]) w22)
            (RunQ .sl P (Instr.loadAt T_sl_api_Entry (.pointer (some (Go.Addr.add a0 8)))) w1.drew.drew fun (s24 : Sl) =>
             ifB (decide (IntKind.i64.wrap (n9 - n10) > (↑s24.len : Int)))
              (∃ S25 : World → Prop, (S25 w1.drew.drew.drew) ∧
                HRun S25 (.int .i64) P (Instr.loadAt T_int (.pointer (some (Go.Addr.add a0 1)))) fun (n26 : Int) =>
                nilCk x0 fun (a27 : Addr) =>
                HRun S25 (.int .i64) P (Instr.loadAt T_int (.pointer (some ((a27.add 2).add 0)))) fun (n28 : Int) =>
                nilCk x0 fun (a29 : Addr) =>
                HRun S25 (.int .i64) P (Instr.loadAt T_int (.pointer (some (a29.add 10)))) fun (n30 : Int) =>
                CallP P F_raft_Raft_send [(.pointer x0), (.agg #[(.int .i64 6), (.int .i64 0), (.int .i64 n26), (.int .i64 n28), (.int .i64 n30), (.int .i64 0), (.int .i64 0), (.bool false), (.slice none 0 0), (.slice none 0 0)])] w1.drew.drew.drew fun (v31 : Value) w32 =>
                TupP [] v31 fun (t33 : Unit) =>
                (S25 w32) ∧
                R (.tuple #[]) w32)
              (J11 (some ()) w1.drew.drew)))
          fun t12 w13 =>
          RunQ .sl P (Instr.loadAt T_sl_api_Entry (.pointer (some (Go.Addr.add a0 8)))) w13 fun (s34 : Sl) =>
           RunQ .sl P (Instr.sliceAt T_sl_api_Entry s34.v (some (.int .i64 (IntKind.i64.wrap (n9 - n10)))) none none) w13 fun (s35 : Sl) =>
            StoreP P T_sl_api_Entry (.pointer (some (Go.Addr.add a0 8))) s35.v w13 fun w36 =>
             ∃ S37 : World → Prop, (S37 w36.drew) ∧
               nilCk x0 fun (a38 : Addr) =>
                HRun S37 (.int .i64) P (Instr.loadAt T_int (.pointer (some ((a38.add 2).add 2)))) fun (n39 : Int) =>
                nilCk x0 fun (a40 : Addr) =>
                HRun S37 (.int .i64) P (Instr.loadAt T_int (.pointer (some ((a40.add 2).add 3)))) fun (n41 : Int) =>
                StoreP P T_int (.pointer (some (Go.Addr.add a0 4))) (.int .i64 n39) w36.drew fun w42 =>
                (S37 w42) ∧
                StoreP P T_int (.pointer (some (Go.Addr.add a0 5))) (.int .i64 n41) w42 fun w43 =>
                (S37 w43) ∧
                J2 (some ()) w43)
      (J2 (some ()) w1.drew))
  fun t3 w4 =>
  JoinP (T := Unit) (fun J44 =>
   RunQ (.int .i64) P (Instr.loadAt T_int (.pointer (some (Go.Addr.add a0 4)))) w4 fun (n47 : Int) =>
    CallP P F_raft_Raft_term [(.pointer x0), (.int .i64 n47)] w4 fun (v48 : Value) w49 =>
     TupP [(.int .i64), .bool] v48 fun (t50 : Int × Bool × Unit) =>
      ifB (!t50.snd.fst)
       (∃ S51 : World → Prop, (S51 w49.drew) ∧
         HRun S51 (.int .i64) P (Instr.loadAt T_int (.pointer (some (Go.Addr.add a0 1)))) fun (n52 : Int) =>
          nilCk x0 fun (a53 : Addr) =>
           HRun S51 (.int .i64) P (Instr.loadAt T_int (.pointer (some ((a53.add 2).add 0)))) fun (n54 : Int) =>
            HRun S51 (.int .i64) P (Instr.loadAt T_int (.pointer (some (Go.Addr.add a0 4)))) fun (n55 : Int) =>
             nilCk x0 fun (a56 : Addr) =>
              HRun S51 (.int .i64) P (Instr.loadAt T_int (.pointer (some (a56.add 10)))) fun (n57 : Int) =>
               CallP P F_raft_Raft_last [(.pointer x0)] w49.drew fun (v58 : Value) w59 =>
                TyP (.int .i64) v58 fun (n60 : Int) =>
                (S51 w59) ∧
                CallP P F_raft_Raft_send [(.pointer x0), (.agg #[(.int .i64 6), (.int .i64 0), (.int .i64 n52), (.int .i64 n54), (.int .i64 (if n57 > if IntKind.i64.wrap (n55 - 1) < n60 then IntKind.i64.wrap (n55 - 1) else n60 then n57 else if IntKind.i64.wrap (n55 - 1) < n60 then IntKind.i64.wrap (n55 - 1) else n60)), (.int .i64 0), (.int .i64 0), (.bool true), (.slice none 0 0), (.slice none 0 0)])] w59 fun (v61 : Value) w62 =>
                TupP [] v61 fun (t63 : Unit) =>
                (S51 w62) ∧
                R (.tuple #[]) w62)
       (RunQ (.int .i64) P (Instr.loadAt T_int (.pointer (some (Go.Addr.add a0 5)))) w49 fun (n64 : Int) =>
        ifB (t50.fst != n64)
         (∃ S65 : World → Prop, (S65 w49.drew) ∧
           HRun S65 (.int .i64) P (Instr.loadAt T_int (.pointer (some (Go.Addr.add a0 1)))) fun (n66 : Int) =>
            nilCk x0 fun (a67 : Addr) =>
             HRun S65 (.int .i64) P (Instr.loadAt T_int (.pointer (some ((a67.add 2).add 0)))) fun (n68 : Int) =>
              HRun S65 (.int .i64) P (Instr.loadAt T_int (.pointer (some (Go.Addr.add a0 4)))) fun (n69 : Int) =>
               nilCk x0 fun (a70 : Addr) =>
                HRun S65 (.int .i64) P (Instr.loadAt T_int (.pointer (some (a70.add 10)))) fun (n71 : Int) =>
                CallP P F_raft_Raft_last [(.pointer x0)] w49.drew fun (v72 : Value) w73 =>
                TyP (.int .i64) v72 fun (n74 : Int) =>
                (S65 w73) ∧
                CallP P F_raft_Raft_send [(.pointer x0), (.agg #[(.int .i64 6), (.int .i64 0), (.int .i64 n66), (.int .i64 n68), (.int .i64 (if n71 > if IntKind.i64.wrap (n69 - 1) < n74 then IntKind.i64.wrap (n69 - 1) else n74 then n71 else if IntKind.i64.wrap (n69 - 1) < n74 then IntKind.i64.wrap (n69 - 1) else n74)), (.int .i64 0), (.int .i64 0), (.bool true), (.slice none 0 0), (.slice none 0 0)])] w73 fun (v75 : Value) w76 =>
                TupP [] v75 fun (t77 : Unit) =>
                (S65 w76) ∧
                R (.tuple #[]) w76)
         (J44 (some ()) w49)))
   fun t45 w46 =>
   RunQ .sl P (Instr.loadAt T_sl_api_Entry (.pointer (some (Go.Addr.add a0 8)))) w46 fun (s78 : Sl) =>
    CallP P F_raft_entries [s78.v] w46 fun (v79 : Value) w80 =>
     TyP .sl v79 fun (s81 : Sl) =>
      LoopP (T := Int × Unit) (some (0, ())) w80 fun next82 t83 w84 =>
       ifB (decide (t83.fst < (↑s81.len : Int)))
        (RunQ .addr P (Instr.indexAt T_sl_api_Entry s81.v (.int .i64 t83.fst)) w84 fun (a85 : Addr) =>
         RunQ .val P (Instr.loadAt T_api_Entry (.pointer (some a85))) w84 fun (v86 : Value) =>
          RunK .addr P (Instr.alloc T_api_Entry true (.tuple #[])) w84 fun (a87 : Addr) w88 =>
           StoreP P T_api_Entry (.pointer (some a87)) v86 w88 fun w89 =>
            RunQ (.int .i64) P (Instr.loadAt T_int (.pointer (some (Go.Addr.add a0 4)))) w89 fun (n90 : Int) =>
             JoinP (T := Unit) (fun J91 =>
              CallP P F_raft_Raft_term [(.pointer x0), (.int .i64 (IntKind.i64.wrap (IntKind.i64.wrap (n90 + 1) + t83.fst)))] w89 fun (v94 : Value) w95 =>
               TupP [(.int .i64), .bool] v94 fun (t96 : Int × Bool × Unit) =>
                ifB t96.snd.fst
                (RunQ (.int .i64) P (Instr.loadAt T_int (.pointer (some (Go.Addr.add a87 0)))) w95 fun (n97 : Int) =>
                ifB (t96.fst == n97)
                (next82 (some ((IntKind.i64.wrap (t83.fst + 1)), ())) w95)
                (J91 (some ()) w95))
                (J91 (some ()) w95))
              fun t92 w93 =>
              nilCk x0 fun (a98 : Addr) =>
               RunQ (.int .i64) P (Instr.loadAt T_int (.pointer (some (a98.add 10)))) w93 fun (n99 : Int) =>
                ifB (decide (IntKind.i64.wrap (IntKind.i64.wrap (n90 + 1) + t83.fst) ≤ n99))
                (R (.tuple #[]) w93)
                (∃ S100 : World → Prop, (S100 w93.drew) ∧
                nilCk x0 fun (a101 : Addr) =>
                nilCk x0 fun (a102 : Addr) =>
                HRun S100 (.int .i64) P (Instr.loadAt T_int (.pointer (some ((a102.add 2).add 2)))) fun (n103 : Int) =>
                HRun S100 .val P (Instr.loadAt T_api_Entry (.pointer (some a87))) fun (v104 : Value) =>
                (RunQ .sl P (Instr.loadAt T_sl_api_Entry (.pointer (some ((a101.add 2).add 5)))) w93.drew fun (s105 : Sl) =>
                (S100 w93.drew) ∧
                HRun S100 .sl P (Instr.sliceAt T_sl_api_Entry s105.v none (some (.int .i64 (IntKind.i64.wrap (IntKind.i64.wrap (IntKind.i64.wrap (IntKind.i64.wrap (n90 + 1) + t83.fst) - n103) - 1)))) none) fun (s106 : Sl) =>
                RunK .sl P (Instr.buildSlice T_sl_api_Entry 1 #[(0, v104)]) w93.drew fun (s107 : Sl) w108 =>
                (S100 w108) ∧
                RunK .sl P (Builtin.append_ #[T_sl_api_Entry, T_sl_api_Entry] T_sl_api_Entry #[s106.v, s107.v]) w108 fun (s109 : Sl) w110 =>
                (S100 w110) ∧
                nilCk x0 fun (a111 : Addr) =>
                StoreP P T_sl_api_Entry (.pointer (some ((a111.add 2).add 5))) s109.v w110 fun w112 =>
                (S100 w112) ∧
                nilCk x0 fun (a113 : Addr) =>
                StoreP P T_bool (.pointer (some ((a113.add 17).add 0))) (.bool true) w112 fun w114 =>
                next82 (some ((IntKind.i64.wrap (t83.fst + 1)), ())) w114) ∧
                (RunK .sl P (Instr.buildSlice T_sl_api_Entry 1 #[(0, v104)]) w93.drew fun (s115 : Sl) w116 =>
                (S100 w116) ∧
                RunQ .sl P (Instr.loadAt T_sl_api_Entry (.pointer (some ((a101.add 2).add 5)))) w116 fun (s117 : Sl) =>
                (S100 w116) ∧
                HRun S100 .sl P (Instr.sliceAt T_sl_api_Entry s117.v none (some (.int .i64 (IntKind.i64.wrap (IntKind.i64.wrap (IntKind.i64.wrap (IntKind.i64.wrap (n90 + 1) + t83.fst) - n103) - 1)))) none) fun (s118 : Sl) =>
                RunK .sl P (Builtin.append_ #[T_sl_api_Entry, T_sl_api_Entry] T_sl_api_Entry #[s118.v, s115.v]) w116 fun (s119 : Sl) w120 =>
                (S100 w120) ∧
                nilCk x0 fun (a121 : Addr) =>
                StoreP P T_sl_api_Entry (.pointer (some ((a121.add 2).add 5))) s119.v w120 fun w122 =>
                (S100 w122) ∧
                nilCk x0 fun (a123 : Addr) =>
                StoreP P T_bool (.pointer (some ((a123.add 17).add 0))) (.bool true) w122 fun w124 =>
                next82 (some ((IntKind.i64.wrap (t83.fst + 1)), ())) w124) ∧
                True))
        (RunQ (.int .i64) P (Instr.loadAt T_int (.pointer (some (Go.Addr.add a0 4)))) w84 fun (n125 : Int) =>
         RunQ .sl P (Instr.loadAt T_sl_api_Entry (.pointer (some (Go.Addr.add a0 8)))) w84 fun (s126 : Sl) =>
          ∃ S127 : World → Prop, (S127 w84.drew) ∧
            nilCk x0 fun (a128 : Addr) =>
             HRun S127 (.int .i64) P (Instr.loadAt T_int (.pointer (some (Go.Addr.add a0 6)))) fun (n129 : Int) =>
              RunQ (.int .i64) P (Instr.loadAt T_int (.pointer (some (a128.add 10)))) w84.drew fun (n130 : Int) =>
               (S127 w84.drew) ∧
                nilCk x0 fun (a131 : Addr) =>
                StoreP P T_int (.pointer (some (a131.add 10))) (.int .i64 (if (if IntKind.i64.wrap (n125 + (↑s126.len : Int)) < n129 then IntKind.i64.wrap (n125 + (↑s126.len : Int)) else n129) > n130 then if IntKind.i64.wrap (n125 + (↑s126.len : Int)) < n129 then IntKind.i64.wrap (n125 + (↑s126.len : Int)) else n129 else n130)) w84.drew fun w132 =>
                (S127 w132) ∧
                ∃ S133 : World → Prop, (S133 w132.drew) ∧
                HRun S133 (.int .i64) P (Instr.loadAt T_int (.pointer (some (Go.Addr.add a0 1)))) fun (n134 : Int) =>
                nilCk x0 fun (a135 : Addr) =>
                HRun S133 (.int .i64) P (Instr.loadAt T_int (.pointer (some ((a135.add 2).add 0)))) fun (n136 : Int) =>
                CallP P F_raft_Raft_send [(.pointer x0), (.agg #[(.int .i64 6), (.int .i64 0), (.int .i64 n134), (.int .i64 n136), (.int .i64 (IntKind.i64.wrap (n125 + (↑s126.len : Int)))), (.int .i64 0), (.int .i64 0), (.bool false), (.slice none 0 0), (.slice none 0 0)])] w132.drew fun (v137 : Value) w138 =>
                TupP [] v137 fun (t139 : Unit) =>
                (S133 w138) ∧
                R (.tuple #[]) w138)
def an_raft_Raft_take : Ann := ⟨[(5, []), (16, []), (10, []), (7, [])], [(11, [(110, (.int .i64))])], [17, 21]⟩
theorem e_raft_Raft_take (R : Value → World → Prop) (x0 : Option Addr) (x1 : Value) (w : World) : denF P an_raft_Raft_take Try.f44 [.pointer x0, x1] w R = S_raft_Raft_take R x0 x1 w := by kernel_rfl
theorem c_raft_Raft_take {R : Value → World → Prop} {x0 : Option Addr} {x1 : Value} {w : World} (h : S_raft_Raft_take R x0 x1 w) : CallP P F_raft_Raft_take [.pointer x0, x1] w R := calls_of_denF (an := an_raft_Raft_take) Try.func44 (by rw [e_raft_Raft_take]; exact h)


/-- (*penstock/raft.Raft).install -/
def S_raft_Raft_install (R : Value → World → Prop) (x0 : Option Addr) (x1 : Value) (w : World) : Prop :=
 RunK .addr P (Instr.box T_api_RMsg x1) w fun (a0 : Addr) w1 =>
 JoinP (T := Unit) (fun J2 =>
  RunQ (.int .i64) P (Instr.loadAt T_int (.pointer (some (Go.Addr.add a0 4)))) w1.drew fun (n5 : Int) =>
   nilCk x0 fun (a6 : Addr) =>
    RunQ (.int .i64) P (Instr.loadAt T_int (.pointer (some (a6.add 10)))) w1.drew fun (n7 : Int) =>
     ifB (decide (n5 > n7))
      (JoinP (T := Unit) (fun J8 =>
       RunQ (.int .i64) P (Instr.loadAt T_int (.pointer (some (Go.Addr.add a0 4)))) w1.drew fun (n11 : Int) =>
        CallP P F_raft_Raft_term [(.pointer x0), (.int .i64 n11)] w1.drew fun (v12 : Value) w13 =>
         TupP [(.int .i64), .bool] v12 fun (t14 : Int × Bool × Unit) =>
          ifB t14.snd.fst
           (RunQ (.int .i64) P (Instr.loadAt T_int (.pointer (some (Go.Addr.add a0 5)))) w13 fun (n15 : Int) =>
            ifB (t14.fst == n15)
             (∃ S16 : World → Prop, (S16 w13.drew) ∧
               nilCk x0 fun (a17 : Addr) =>
                HRun S16 (.int .i64) P (Instr.loadAt T_int (.pointer (some (Go.Addr.add a0 4)))) fun (n18 : Int) =>
                nilCk x0 fun (a19 : Addr) =>
                HRun S16 (.int .i64) P (Instr.loadAt T_int (.pointer (some ((a19.add 2).add 2)))) fun (n20 : Int) =>
                RunQ .sl P (Instr.loadAt T_sl_api_Entry (.pointer (some ((a17.add 2).add 5)))) w13.drew fun (s21 : Sl) =>
                (S16 w13.drew) ∧
                HRun S16 .sl P (Instr.sliceAt T_sl_api_Entry s21.v (some (.int .i64 (IntKind.i64.wrap (n18 - n20)))) none none) fun (s22 : Sl) =>
                nilCk x0 fun (a23 : Addr) =>
                StoreP P T_sl_api_Entry (.pointer (some ((a23.add 2).add 5))) s22.v w13.drew fun w24 =>
                (S16 w24) ∧
                J8 (some ()) w24)
             (nilCk x0 fun (a25 : Addr) =>
              StoreP P T_sl_api_Entry (.pointer (some ((a25.add 2).add 5))) (.slice none 0 0) w13 fun w26 =>
               J8 (some ()) w26))
           (nilCk x0 fun (a27 : Addr) =>
            StoreP P T_sl_api_Entry (.pointer (some ((a27.add 2).add 5))) (.slice none 0 0) w13 fun w28 =>
             J8 (some ()) w28))
       fun t9 w10 =>
       ∃ S29 : World → Prop, (S29 w10.drew) ∧
         HRun S29 (.int .i64) P (Instr.loadAt T_int (.pointer (some (Go.Addr.add a0 4)))) fun (n30 : Int) =>
          HRun S29 (.int .i64) P (Instr.loadAt T_int (.pointer (some (Go.Addr.add a0 5)))) fun (n31 : Int) =>
           HRun S29 .sl P (Instr.loadAt T_sl_uint8 (.pointer (some (Go.Addr.add a0 9)))) fun (s32 : Sl) =>
            RunK .sl P (Builtin.append_ #[T_sl_uint8, T_sl_uint8] T_sl_uint8 #[(.slice none 0 0), s32.v]) w10.drew fun (s33 : Sl) w34 =>
             (S29 w34) ∧
              nilCk x0 fun (a35 : Addr) =>
               StoreP P T_int (.pointer (some ((a35.add 2).add 2))) (.int .i64 n30) w34 fun w36 =>
                (S29 w36) ∧
                nilCk x0 fun (a37 : Addr) =>
                StoreP P T_int (.pointer (some ((a37.add 2).add 3))) (.int .i64 n31) w36 fun w38 =>
                (S29 w38) ∧
                nilCk x0 fun (a39 : Addr) =>
                StoreP P T_sl_uint8 (.pointer (some ((a39.add 2).add 4))) s33.v w38 fun w40 =>
                (S29 w40) ∧
                ∃ S41 : World → Prop, (S41 w40.drew) ∧
                HRun S41 (.int .i64) P (Instr.loadAt T_int (.pointer (some (Go.Addr.add a0 4)))) fun (n42 : Int) =>
                HRun S41 (.int .i64) P (Instr.loadAt T_int (.pointer (some (Go.Addr.add a0 4)))) fun (n43 : Int) =>
                nilCk x0 fun (a44 : Addr) =>
                StoreP P T_int (.pointer (some (a44.add 10))) (.int .i64 n42) w40.drew fun w45 =>
                (S41 w45) ∧
                nilCk x0 fun (a46 : Addr) =>
                StoreP P T_int (.pointer (some (a46.add 11))) (.int .i64 n43) w45 fun w47 =>
                (S41 w47) ∧
                RunQ .sl P (Instr.loadAt T_sl_uint8 (.pointer (some (Go.Addr.add a0 9)))) w47 fun (s48 : Sl) =>
                RunK .sl P (Builtin.append_ #[T_sl_uint8, T_sl_uint8] T_sl_uint8 #[(.slice none 0 0), s48.v]) w47 fun (s49 : Sl) w50 =>
                nilCk x0 fun (a51 : Addr) =>
                StoreP P T_bool (.pointer (some ((a51.add 17).add 0))) (.bool true) w50 fun w52 =>
                nilCk x0 fun (a53 : Addr) =>
                StoreP P T_bool (.pointer (some ((a53.add 17).add 8))) (.bool true) w52 fun w54 =>
                nilCk x0 fun (a55 : Addr) =>
                StoreP P T_sl_uint8 (.pointer (some ((a55.add 17).add 9))) s49.v w54 fun w56 =>
                nilCk x0 fun (a57 : Addr) =>
                StoreP P T_sl_api_Commit (.pointer (some ((a57.add 17).add 10))) (.slice none 0 0) w56 fun w58 =>
                J2 (some ()) w58)
      (J2 (some ()) w1.drew))
  fun t3 w4 =>
  ∃ S59 : World → Prop, (S59 w4.drew) ∧
    HRun S59 (.int .i64) P (Instr.loadAt T_int (.pointer (some (Go.Addr.add a0 1)))) fun (n60 : Int) =>
     nilCk x0 fun (a61 : Addr) =>
      HRun S59 (.int .i64) P (Instr.loadAt T_int (.pointer (some ((a61.add 2).add 0)))) fun (n62 : Int) =>
       HRun S59 (.int .i64) P (Instr.loadAt T_int (.pointer (some (Go.Addr.add a0 4)))) fun (n63 : Int) =>
        nilCk x0 fun (a64 : Addr) =>
         HRun S59 (.int .i64) P (Instr.loadAt T_int (.pointer (some (a64.add 10)))) fun (n65 : Int) =>
          CallP P F_raft_Raft_send [(.pointer x0), (.agg #[(.int .i64 6), (.int .i64 0), (.int .i64 n60), (.int .i64 n62), (.int .i64 (if n65 > n63 then n65 else n63)), (.int .i64 0), (.int .i64 0), (.bool false), (.slice none 0 0), (.slice none 0 0)])] w4.drew fun (v66 : Value) w67 =>
           TupP [] v66 fun (t68 : Unit) =>
            (S59 w67) ∧
             R (.tuple #[]) w67
def an_raft_Raft_install : Ann := ⟨[(6, []), (10, [])], [], [4]⟩
theorem e_raft_Raft_install (R : Value → World → Prop) (x0 : Option Addr) (x1 : Value) (w : World) : denF P an_raft_Raft_install Try.f45 [.pointer x0, x1] w R = S_raft_Raft_install R x0 x1 w := by kernel_rfl
theorem c_raft_Raft_install {R : Value → World → Prop} {x0 : Option Addr} {x1 : Value} {w : World} (h : S_raft_Raft_install R x0 x1 w) : CallP P F_raft_Raft_install [.pointer x0, x1] w R := calls_of_denF (an := an_raft_Raft_install) Try.func45 (by rw [e_raft_Raft_install]; exact h)


/-- (*penstock/raft.Raft).appended -/
def S_raft_Raft_appended (R : Value → World → Prop) (x0 : Option Addr) (x1 : Value) (w : World) : Prop :=
 RunK .addr P (Instr.box T_api_RMsg x1) w fun (a0 : Addr) w1 =>
 JoinP (T := Unit) (fun J2 =>
  ∃ S5 : World → Prop, (S5 w1.drew) ∧
    nilCk x0 fun (a6 : Addr) =>
     HRun S5 (.int .i64) P (Instr.loadAt T_int (.pointer (some (a6.add 8)))) fun (n7 : Int) =>
      ifB (n7 != 3)
       (R (.tuple #[]) w1.drew)
       (HRun S5 (.int .i64) P (Instr.loadAt T_int (.pointer (some (Go.Addr.add a0 4)))) fun (n8 : Int) =>
        ifB (decide (n8 < 0))
         (R (.tuple #[]) w1.drew)
         (HRun S5 (.int .i64) P (Instr.loadAt T_int (.pointer (some (Go.Addr.add a0 4)))) fun (n9 : Int) =>
          CallP P F_raft_Raft_last [(.pointer x0)] w1.drew fun (v10 : Value) w11 =>
           TyP (.int .i64) v10 fun (n12 : Int) =>
            (S5 w11) ∧
             ifB (decide (n9 > n12))
              (R (.tuple #[]) w11)
              (J2 (some ()) w11))))
  fun t3 w4 =>
  RunQ .bool P (Instr.loadAt T_bool (.pointer (some (Go.Addr.add a0 7)))) w4 fun (b13 : Bool) =>
   ifB b13
    (RunQ (.int .i64) P (Instr.loadAt T_int (.pointer (some (Go.Addr.add a0 4)))) w4.drew fun (n14 : Int) =>
     nilCk x0 fun (a15 : Addr) =>
      RunQ .sl P (Instr.loadAt T_sl_int (.pointer (some (a15.add 15)))) w4.drew fun (s16 : Sl) =>
       RunQ (.int .i64) P (Instr.loadAt T_int (.pointer (some (Go.Addr.add a0 1)))) w4.drew fun (n17 : Int) =>
        RunQ .addr P (Instr.indexAt T_sl_int s16.v (.int .i64 n17)) w4.drew fun (a18 : Addr) =>
         RunQ (.int .i64) P (Instr.loadAt T_int (.pointer (some a18))) w4.drew fun (n19 : Int) =>
          ifB (decide (IntKind.i64.wrap (n14 + 1) < n19))
           (RunQ (.int .i64) P (Instr.loadAt T_int (.pointer (some (Go.Addr.add a0 4)))) w4.drew fun (n20 : Int) =>
            nilCk x0 fun (a21 : Addr) =>
             RunQ .sl P (Instr.loadAt T_sl_int (.pointer (some (a21.add 16)))) w4.drew fun (s22 : Sl) =>
              RunQ (.int .i64) P (Instr.loadAt T_int (.pointer (some (Go.Addr.add a0 1)))) w4.drew fun (n23 : Int) =>
               RunQ .addr P (Instr.indexAt T_sl_int s22.v (.int .i64 n23)) w4.drew fun (a24 : Addr) =>
                RunQ (.int .i64) P (Instr.loadAt T_int (.pointer (some a24))) w4.drew fun (n25 : Int) =>
                ifB (decide (n20 ≥ n25))
                (∃ S26 : World → Prop, (S26 w4.drew.drew) ∧
                nilCk x0 fun (a27 : Addr) =>
                HRun S26 .sl P (Instr.loadAt T_sl_int (.pointer (some (a27.add 15)))) fun (s28 : Sl) =>
                HRun S26 (.int .i64) P (Instr.loadAt T_int (.pointer (some (Go.Addr.add a0 1)))) fun (n29 : Int) =>
                HRun S26 (.int .i64) P (Instr.loadAt T_int (.pointer (some (Go.Addr.add a0 4)))) fun (n30 : Int) =>
                HRun S26 .addr P (Instr.indexAt T_sl_int s28.v (.int .i64 n29)) fun (a31 : Addr) =>
                StoreP P T_int (.pointer (some a31)) (.int .i64 (IntKind.i64.wrap (n30 + 1))) w4.drew.drew fun w32 =>
                (S26 w32) ∧
                RunQ (.int .i64) P (Instr.loadAt T_int (.pointer (some (Go.Addr.add a0 1)))) w32 fun (n33 : Int) =>
                CallP P F_raft_Raft_feed [(.pointer x0), (.int .i64 n33)] w32 fun (v34 : Value) w35 =>
                TupP [] v34 fun (t36 : Unit) =>
                R (.tuple #[]) w35)
                (R (.tuple #[]) w4.drew))
           (R (.tuple #[]) w4.drew))
    (RunQ (.int .i64) P (Instr.loadAt T_int (.pointer (some (Go.Addr.add a0 4)))) w4.drew fun (n37 : Int) =>
     nilCk x0 fun (a38 : Addr) =>
      RunQ .sl P (Instr.loadAt T_sl_int (.pointer (some (a38.add 16)))) w4.drew fun (s39 : Sl) =>
       RunQ (.int .i64) P (Instr.loadAt T_int (.pointer (some (Go.Addr.add a0 1)))) w4.drew fun (n40 : Int) =>
        RunQ .addr P (Instr.indexAt T_sl_int s39.v (.int .i64 n40)) w4.drew fun (a41 : Addr) =>
         RunQ (.int .i64) P (Instr.loadAt T_int (.pointer (some a41))) w4.drew fun (n42 : Int) =>
          ifB (decide (n37 > n42))
           (∃ S43 : World → Prop, (S43 w4.drew.drew) ∧
             nilCk x0 fun (a44 : Addr) =>
              HRun S43 .sl P (Instr.loadAt T_sl_int (.pointer (some (a44.add 16)))) fun (s45 : Sl) =>
               HRun S43 (.int .i64) P (Instr.loadAt T_int (.pointer (some (Go.Addr.add a0 1)))) fun (n46 : Int) =>
                HRun S43 (.int .i64) P (Instr.loadAt T_int (.pointer (some (Go.Addr.add a0 4)))) fun (n47 : Int) =>
                HRun S43 .addr P (Instr.indexAt T_sl_int s45.v (.int .i64 n46)) fun (a48 : Addr) =>
                StoreP P T_int (.pointer (some a48)) (.int .i64 n47) w4.drew.drew fun w49 =>
                (S43 w49) ∧
                ∃ S50 : World → Prop, (S50 w49.drew) ∧
                nilCk x0 fun (a51 : Addr) =>
                HRun S50 .sl P (Instr.loadAt T_sl_int (.pointer (some (a51.add 15)))) fun (s52 : Sl) =>
                HRun S50 (.int .i64) P (Instr.loadAt T_int (.pointer (some (Go.Addr.add a0 1)))) fun (n53 : Int) =>
                nilCk x0 fun (a54 : Addr) =>
                HRun S50 .sl P (Instr.loadAt T_sl_int (.pointer (some (a54.add 15)))) fun (s55 : Sl) =>
                HRun S50 (.int .i64) P (Instr.loadAt T_int (.pointer (some (Go.Addr.add a0 1)))) fun (n56 : Int) =>
                HRun S50 .addr P (Instr.indexAt T_sl_int s55.v (.int .i64 n56)) fun (a57 : Addr) =>
                HRun S50 (.int .i64) P (Instr.loadAt T_int (.pointer (some (Go.Addr.add a0 4)))) fun (n58 : Int) =>
                RunQ (.int .i64) P (Instr.loadAt T_int (.pointer (some a57))) w49.drew fun (n59 : Int) =>
                (S50 w49.drew) ∧
                HRun S50 .addr P (Instr.indexAt T_sl_int s52.v (.int .i64 n53)) fun (a60 : Addr) =>
                StoreP P T_int (.pointer (some a60)) (.int .i64 (if IntKind.i64.wrap (n58 + 1) > n59 then IntKind.i64.wrap (n58 + 1) else n59)) w49.drew fun w61 =>
                (S50 w61) ∧
                nilCk x0 fun (a62 : Addr) =>
                RunQ (.int .i64) P (Instr.loadAt T_int (.pointer (some (a62.add 10)))) w61 fun (n63 : Int) =>
                CallP P F_raft_Raft_advance [(.pointer x0)] w61 fun (v64 : Value) w65 =>
                TupP [] v64 fun (t66 : Unit) =>
                nilCk x0 fun (a67 : Addr) =>
                RunQ (.int .i64) P (Instr.loadAt T_int (.pointer (some (a67.add 10)))) w65 fun (n68 : Int) =>
                ifB (decide (n68 > n63))
                (CallP P F_raft_Raft_spread [(.pointer x0)] w65 fun (v69 : Value) w70 =>
                TupP [] v69 fun (t71 : Unit) =>
                R (.tuple #[]) w70)
                (∃ S72 : World → Prop, (S72 w65.drew) ∧
                nilCk x0 fun (a73 : Addr) =>
                HRun S72 .sl P (Instr.loadAt T_sl_int (.pointer (some (a73.add 15)))) fun (s74 : Sl) =>
                HRun S72 (.int .i64) P (Instr.loadAt T_int (.pointer (some (Go.Addr.add a0 1)))) fun (n75 : Int) =>
                HRun S72 .addr P (Instr.indexAt T_sl_int s74.v (.int .i64 n75)) fun (a76 : Addr) =>
                HRun S72 (.int .i64) P (Instr.loadAt T_int (.pointer (some a76))) fun (n77 : Int) =>
                CallP P F_raft_Raft_last [(.pointer x0)] w65.drew fun (v78 : Value) w79 =>
                TyP (.int .i64) v78 fun (n80 : Int) =>
                (S72 w79) ∧
                ifB (decide (n77 ≤ n80))
                (RunQ (.int .i64) P (Instr.loadAt T_int (.pointer (some (Go.Addr.add a0 1)))) w79 fun (n81 : Int) =>
                CallP P F_raft_Raft_feed [(.pointer x0), (.int .i64 n81)] w79 fun (v82 : Value) w83 =>
                TupP [] v82 fun (t84 : Unit) =>
                R (.tuple #[]) w83)
                (R (.tuple #[]) w79)))
           (R (.tuple #[]) w4.drew))
def an_raft_Raft_appended : Ann := ⟨[(2, [])], [], [8]⟩
theorem e_raft_Raft_appended (R : Value → World → Prop) (x0 : Option Addr) (x1 : Value) (w : World) : denF P an_raft_Raft_appended Try.f46 [.pointer x0, x1] w R = S_raft_Raft_appended R x0 x1 w := by kernel_rfl
theorem c_raft_Raft_appended {R : Value → World → Prop} {x0 : Option Addr} {x1 : Value} {w : World} (h : S_raft_Raft_appended R x0 x1 w) : CallP P F_raft_Raft_appended [.pointer x0, x1] w R := calls_of_denF (an := an_raft_Raft_appended) Try.func46 (by rw [e_raft_Raft_appended]; exact h)


/-- (*penstock/raft.Raft).lead -/
def S_raft_Raft_lead (R : Value → World → Prop) (x0 : Option Addr) (w : World) : Prop :=
 nilCk x0 fun (a0 : Addr) =>
 RunQ (.int .i64) P (Instr.loadAt T_int (.pointer (some (a0.add 0)))) w fun (n1 : Int) =>
  nilCk x0 fun (a2 : Addr) =>
   StoreP P T_int (.pointer (some (a2.add 8))) (.int .i64 3) w fun w3 =>
    nilCk x0 fun (a4 : Addr) =>
     StoreP P T_int (.pointer (some (a4.add 9))) (.int .i64 n1) w3 fun w5 =>
      nilCk x0 fun (a6 : Addr) =>
       StoreP P T_map_int_bool (.pointer (some (a6.add 14))) (.map none) w5 fun w7 =>
        nilCk x0 fun (a8 : Addr) =>
         RunQ (.int .i64) P (Instr.loadAt T_int (.pointer (some (a8.add 1)))) w7 fun (n9 : Int) =>
          LoopP (T := Int × Unit) (some (0, ())) w7 fun next10 t11 w12 =>
           ifB (decide (t11.fst < n9))
            (∃ S13 : World → Prop, (S13 w12.drew) ∧
              nilCk x0 fun (a14 : Addr) =>
               HRun S13 .sl P (Instr.loadAt T_sl_int (.pointer (some (a14.add 15)))) fun (s15 : Sl) =>
                nilCk x0 fun (a16 : Addr) =>
                HRun S13 .sl P (Instr.loadAt T_sl_int (.pointer (some (a16.add 16)))) fun (s17 : Sl) =>
                CallP P F_raft_Raft_last [(.pointer x0)] w12.drew fun (v18 : Value) w19 =>
                TyP (.int .i64) v18 fun (n20 : Int) =>
                (S13 w19) ∧
                HRun S13 .addr P (Instr.indexAt T_sl_int s15.v (.int .i64 t11.fst)) fun (a21 : Addr) =>
                StoreP P T_int (.pointer (some a21)) (.int .i64 (IntKind.i64.wrap (n20 + 1))) w19 fun w22 =>
                (S13 w22) ∧
                HRun S13 .addr P (Instr.indexAt T_sl_int s17.v (.int .i64 t11.fst)) fun (a23 : Addr) =>
                StoreP P T_int (.pointer (some a23)) (.int .i64 0) w22 fun w24 =>
                (S13 w24) ∧
                next10 (some ((IntKind.i64.wrap (t11.fst + 1)), ())) w24)
            (CallP P F_raft_Raft_append [(.pointer x0), (.slice none 0 0)] w12 fun (v25 : Value) w26 =>
             TupP [] v25 fun (t27 : Unit) =>
              CallP P F_raft_Raft_spread [(.pointer x0)] w26 fun (v28 : Value) w29 =>
               TupP [] v28 fun (t30 : Unit) =>
                R (.tuple #[]) w29)
def an_raft_Raft_lead : Ann := ⟨[], [(2, [(20, (.int .i64))])], []⟩
theorem e_raft_Raft_lead (R : Value → World → Prop) (x0 : Option Addr) (w : World) : denF P an_raft_Raft_lead Try.f47 [.pointer x0] w R = S_raft_Raft_lead R x0 w := by kernel_rfl
theorem c_raft_Raft_lead {R : Value → World → Prop} {x0 : Option Addr} {w : World} (h : S_raft_Raft_lead R x0 w) : CallP P F_raft_Raft_lead [.pointer x0] w R := calls_of_denF (an := an_raft_Raft_lead) Try.func47 (by rw [e_raft_Raft_lead]; exact h)

end Go.Proofs.Ytfbffgcoopelfaa
