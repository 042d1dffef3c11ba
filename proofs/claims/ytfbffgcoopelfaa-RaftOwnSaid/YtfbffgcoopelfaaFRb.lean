/- The functions of the program as predicates over worlds, written by a program of mine (PkPrint); each is held against the code by the kernel. -/
import Derived.Test.YtfbffgcoopelfaaN
namespace Go.Proofs.Ytfbffgcoopelfaa
open Go Go.Pk
/-- penstock/penstocklaw12.RaftKeeps -/
def S_law12_RaftKeeps (R : Value → World → Prop) (x0 : Int) (x1 : Int) (x2 : Value) (w : World) : Prop :=
 RunK .addr P (Instr.box T_api_Hard x2) w fun (a0 : Addr) w1 =>
 RunQ .val P (Instr.loadAt T_api_Hard (.pointer (some a0))) w1 fun (v2 : Value) =>
  CallP P F_ref12_Copy [v2] w1 fun (v3 : Value) w4 =>
   TyP .val v3 fun (v5 : Value) =>
    CallP P F_raft_New [(.int .i64 x0), (.int .i64 x1), v5] w4 fun (v6 : Value) w7 =>
     TupP [.ptr, (.int .i64)] v6 fun (t8 : Option Addr × Int × Unit) =>
      JoinP (T := Bool × Unit) (fun J9 =>
       ifB (decide (x1 < 1))
        (J9 (some (true, ())) w7)
        (ifB (decide (x1 > 5))
         (J9 (some (true, ())) w7)
         (ifB (decide (x0 < 0))
          (J9 (some (true, ())) w7)
          (ifB (decide (x0 ≥ x1))
           (J9 (some (true, ())) w7)
           (RunQ (.int .i64) P (Instr.loadAt T_int (.pointer (some (Go.Addr.add a0 0)))) w7 fun (n12 : Int) =>
            ifB (decide (n12 < 0))
             (J9 (some (true, ())) w7)
             (RunQ (.int .i64) P (Instr.loadAt T_int (.pointer (some (Go.Addr.add a0 2)))) w7 fun (n13 : Int) =>
              ifB (decide (n13 < 0))
               (J9 (some (true, ())) w7)
               (RunQ (.int .i64) P (Instr.loadAt T_int (.pointer (some (Go.Addr.add a0 1)))) w7 fun (n14 : Int) =>
                ifB (decide (n14 < -1))
                (J9 (some (true, ())) w7)
                (RunQ (.int .i64) P (Instr.loadAt T_int (.pointer (some (Go.Addr.add a0 1)))) w7 fun (n15 : Int) =>
                J9 (some ((decide (n15 ≥ x1)), ())) w7))))))))
       fun t10 w11 =>
       JoinP (T := Unit) (fun J16 =>
        CallP P F_law12_awake [] w11 fun (v19 : Value) w20 =>
         TyP .bool v19 fun (b21 : Bool) =>
          ifB (!b21)
           (R (.bool false) w20)
           (ifB (!(t8.snd.fst == 1) == t10.fst)
            (R (.bool false) w20)
            (ifB (!Option.isNone t8.fst == t10.fst)
             (R (.bool false) w20)
             (J16 (some ()) w20))))
        fun t17 w18 =>
        ifB (Option.isNone t8.fst)
         (R (.bool true) w18)
         (CallP P F_raft_Raft_Take [(.pointer t8.fst)] w18 fun (v22 : Value) w23 =>
          TyP .val v22 fun (v24 : Value) =>
           RunK .addr P (Instr.alloc T_api_Ready true (.tuple #[])) w23 fun (a25 : Addr) w26 =>
            StoreP P T_api_Ready (.pointer (some a25)) v24 w26 fun w27 =>
             CallP P F_raft_Raft_State [(.pointer t8.fst)] w27 fun (v28 : Value) w29 =>
              TupP [(.int .i64), (.int .i64), (.int .i64), (.int .i64), (.int .i64)] v28 fun (t30 : Int × Int × Int × Int × Int × Unit) =>
               JoinP (T := Unit) (fun J31 =>
                ifB (t30.fst != 0)
                (R (.bool false) w29)
                (RunQ (.int .i64) P (Instr.loadAt T_int (.pointer (some (Go.Addr.add a0 0)))) w29 fun (n34 : Int) =>
                ifB (t30.snd.fst != n34)
                (R (.bool false) w29)
                (ifB (t30.snd.snd.fst != -1)
                (R (.bool false) w29)
                (RunQ (.int .i64) P (Instr.loadAt T_int (.pointer (some (Go.Addr.add a0 2)))) w29 fun (n35 : Int) =>
                ifB (t30.snd.snd.snd.fst != n35)
                (R (.bool false) w29)
                (RunQ (.int .i64) P (Instr.loadAt T_int (.pointer (some (Go.Addr.add a0 2)))) w29 fun (n36 : Int) =>
                RunQ .sl P (Instr.loadAt T_sl_api_Entry (.pointer (some (Go.Addr.add a0 5)))) w29 fun (s37 : Sl) =>
                ifB (t30.snd.snd.snd.snd.fst != IntKind.i64.wrap (n36 + (↑s37.len : Int)))
                (R (.bool false) w29)
                (J31 (some ()) w29))))))
                fun t32 w33 =>
                RunQ .bool P (Instr.loadAt T_bool (.pointer (some (Go.Addr.add a25 0)))) w33 fun (b38 : Bool) =>
                ifB (!b38)
                (RunQ .bool P (Instr.loadAt T_bool (.pointer (some (Go.Addr.add a25 8)))) w33 fun (b39 : Bool) =>
                RunQ (.int .i64) P (Instr.loadAt T_int (.pointer (some (Go.Addr.add a0 2)))) w33 fun (n40 : Int) =>
                ifB (b39 == decide (n40 > 0))
                (RunQ .sl P (Instr.loadAt T_sl_api_Commit (.pointer (some (Go.Addr.add a25 10)))) w33 fun (s41 : Sl) =>
                RunQ .sl P (Instr.loadAt T_sl_api_RMsg (.pointer (some (Go.Addr.add a25 7)))) w33 fun (s42 : Sl) =>
                ifB (IntKind.i64.wrap ((↑s41.len : Int) + (↑s42.len : Int)) == 0)
                (RunQ .bool P (Instr.loadAt T_bool (.pointer (some (Go.Addr.add a25 8)))) w33 fun (b43 : Bool) =>
                ifB (!b43)
                (R (.bool true) w33)
                (RunQ .sl P (Instr.loadAt T_sl_uint8 (.pointer (some (Go.Addr.add a25 9)))) w33 fun (s44 : Sl) =>
                RunQ .sl P (Instr.loadAt T_sl_uint8 (.pointer (some (Go.Addr.add a0 4)))) w33 fun (s45 : Sl) =>
                CallP P F_ref03_Same [s44.v, s45.v] w33 fun (v46 : Value) w47 =>
                TyP .bool v46 fun (b48 : Bool) =>
                R (.bool b48) w47))
                (R (.bool false) w33))
                (R (.bool false) w33))
                (R (.bool false) w33))
def an_law12_RaftKeeps : Ann := ⟨[(11, []), (5, []), (3, [(9, .bool)])], [], []⟩
theorem e_law12_RaftKeeps (R : Value → World → Prop) (x0 : Int) (x1 : Int) (x2 : Value) (w : World) : denF P an_law12_RaftKeeps Try.f3 [.int .i64 x0, .int .i64 x1, x2] w R = S_law12_RaftKeeps R x0 x1 x2 w := by kernel_rfl
theorem c_law12_RaftKeeps {R : Value → World → Prop} {x0 : Int} {x1 : Int} {x2 : Value} {w : World} (h : S_law12_RaftKeeps R x0 x1 x2 w) : CallP P F_law12_RaftKeeps [.int .i64 x0, .int .i64 x1, x2] w R := calls_of_denF (an := an_law12_RaftKeeps) Try.func3 (by rw [e_law12_RaftKeeps]; exact h)


/-- penstock/penstocklaw12.RaftOwn -/
def S_law12_RaftOwn (R : Value → World → Prop) (x0 : Sl) (w : World) : Prop :=
 CallP P F_raft_New [(.int .i64 0), (.int .i64 1), (.agg #[(.int .i64 0), (.int .i64 (-1)), (.int .i64 0), (.int .i64 0), (.slice none 0 0), (.slice none 0 0)])] w fun (v0 : Value) w1 =>
 TupP [.ptr, (.int .i64)] v0 fun (t2 : Option Addr × Int × Unit) =>
  JoinP (T := Unit) (fun J3 =>
   CallP P F_law12_awake [] w1 fun (v6 : Value) w7 =>
    TyP .bool v6 fun (b8 : Bool) =>
     ifB (!b8)
      (R (.bool false) w7)
      (ifB (Option.isNone t2.fst)
       (R (.bool false) w7)
       (ifB (t2.snd.fst != 0)
        (R (.bool false) w7)
        (J3 (some ()) w7))))
   fun t4 w5 =>
   LoopP (T := Int × Unit) (some (0, ())) w5 fun next9 t10 w11 =>
    ifB (decide (t10.fst < 4))
     (CallP P F_raft_Raft_Tick [(.pointer t2.fst), (.int .u64 0)] w11 fun (v12 : Value) w13 =>
      TupP [] v12 fun (t14 : Unit) =>
       next9 (some ((IntKind.i64.wrap (t10.fst + 1)), ())) w13)
     (LoopP (T := Int × Unit) (some (0, ())) w11 fun next15 t16 w17 =>
      ifB (decide (t16.fst < (↑x0.len : Int)))
       (RunQ .addr P (Instr.indexAt T_sl_sl_uint8 x0.v (.int .i64 t16.fst)) w17 fun (a18 : Addr) =>
        RunQ .sl P (Instr.loadAt T_sl_uint8 (.pointer (some a18))) w17 fun (s19 : Sl) =>
         JoinP (T := Unit) (fun J20 =>
          ifB (decide ((↑s19.len : Int) > 4096))
           (R (.bool true) w17)
           (ifB (decide (t16.fst > 50))
            (R (.bool true) w17)
            (J20 (some ()) w17)))
          fun t21 w22 =>
          RunK .sl P (Instr.buildSlice T_sl_uint8 0 #[]) w22 fun (s23 : Sl) w24 =>
           RunK .sl P (Builtin.append_ #[T_sl_uint8, T_sl_uint8] T_sl_uint8 #[s23.v, s19.v]) w24 fun (s25 : Sl) w26 =>
            CallP P F_raft_Raft_Propose [(.pointer t2.fst), s25.v] w26 fun (v27 : Value) w28 =>
             TupP [(.int .i64), (.int .i64)] v27 fun (t29 : Int × Int × Unit) =>
              ifB (t29.snd.fst != 0)
               (R (.bool false) w28)
               (LoopP (T := Int × Unit) (some (0, ())) w28 fun next30 t31 w32 =>
                ifB (decide (t31.fst < (↑s25.len : Int)))
                (RunQ .addr P (Instr.indexAt T_sl_uint8 s25.v (.int .i64 t31.fst)) w32 fun (a33 : Addr) =>
                StoreP P T_uint8 (.pointer (some a33)) (.int .u8 1) w32 fun w34 =>
                next30 (some ((IntKind.i64.wrap (t31.fst + 1)), ())) w34)
                (next15 (some ((IntKind.i64.wrap (t16.fst + 1)), ())) w32)))
       (CallP P F_raft_Raft_Take [(.pointer t2.fst)] w17 fun (v35 : Value) w36 =>
        TyP .val v35 fun (v37 : Value) =>
         RunK .addr P (Instr.alloc T_api_Ready true (.tuple #[])) w36 fun (a38 : Addr) w39 =>
          StoreP P T_api_Ready (.pointer (some a38)) v37 w39 fun w40 =>
           JoinP (T := Unit) (fun J41 =>
            RunQ .sl P (Instr.loadAt T_sl_api_Entry (.pointer (some ((Go.Addr.add a38 1).add 5)))) w40 fun (s44 : Sl) =>
             RunQ .sl P (Instr.loadAt T_sl_api_Commit (.pointer (some (Go.Addr.add a38 10)))) w40 fun (s45 : Sl) =>
              ifB ((↑s44.len : Int) != (↑s45.len : Int))
               (R (.bool false) w40)
               (RunQ .sl P (Instr.loadAt T_sl_api_Commit (.pointer (some (Go.Addr.add a38 10)))) w40 fun (s46 : Sl) =>
                RunQ .sl P (Instr.loadAt T_sl_api_Commit (.pointer (some (Go.Addr.add a38 10)))) w40 fun (s47 : Sl) =>
                ifB ((↑s46.len : Int) != IntKind.i64.wrap (1 + if IntKind.i64.wrap ((↑s47.len : Int) - 1) < (↑x0.len : Int) then IntKind.i64.wrap ((↑s47.len : Int) - 1) else (↑x0.len : Int)))
                (R (.bool false) w40)
                (J41 (some ()) w40)))
            fun t42 w43 =>
            LoopP (T := Int × Unit) (some (0, ())) w43 fun next48 t49 w50 =>
             ifB (decide (t49.fst < (↑x0.len : Int)))
              (RunQ .addr P (Instr.indexAt T_sl_sl_uint8 x0.v (.int .i64 t49.fst)) w50 fun (a51 : Addr) =>
               RunQ .sl P (Instr.loadAt T_sl_uint8 (.pointer (some a51))) w50 fun (s52 : Sl) =>
                JoinP (T := Unit) (fun J53 =>
                RunQ .sl P (Instr.loadAt T_sl_api_Commit (.pointer (some (Go.Addr.add a38 10)))) w50 fun (s56 : Sl) =>
                RunQ .addr P (Instr.indexAt T_sl_api_Commit s56.v (.int .i64 (IntKind.i64.wrap (t49.fst + 1)))) w50 fun (a57 : Addr) =>
                RunQ .sl P (Instr.loadAt T_sl_uint8 (.pointer (some (Go.Addr.add a57 1)))) w50 fun (s58 : Sl) =>
                CallP P F_ref03_Same [s58.v, s52.v] w50 fun (v59 : Value) w60 =>
                TyP .bool v59 fun (b61 : Bool) =>
                ifB (!b61)
                (R (.bool false) w60)
                (RunQ .sl P (Instr.loadAt T_sl_api_Entry (.pointer (some ((Go.Addr.add a38 1).add 5)))) w60 fun (s62 : Sl) =>
                RunQ .addr P (Instr.indexAt T_sl_api_Entry s62.v (.int .i64 (IntKind.i64.wrap (t49.fst + 1)))) w60 fun (a63 : Addr) =>
                RunQ .sl P (Instr.loadAt T_sl_uint8 (.pointer (some (Go.Addr.add a63 1)))) w60 fun (s64 : Sl) =>
                CallP P F_ref03_Same [s64.v, s52.v] w60 fun (v65 : Value) w66 =>
                TyP .bool v65 fun (b67 : Bool) =>
                ifB (!b67)
                (R (.bool false) w66)
                (J53 (some ()) w66)))
                fun t54 w55 =>
                RunQ .sl P (Instr.loadAt T_sl_api_Commit (.pointer (some (Go.Addr.add a38 10)))) w55 fun (s68 : Sl) =>
                RunQ .addr P (Instr.indexAt T_sl_api_Commit s68.v (.int .i64 (IntKind.i64.wrap (t49.fst + 1)))) w55 fun (a69 : Addr) =>
                RunQ .sl P (Instr.loadAt T_sl_uint8 (.pointer (some (Go.Addr.add a69 1)))) w55 fun (s70 : Sl) =>
                LoopP (T := Int × Unit) (some (0, ())) w55 fun next71 t72 w73 =>
                ifB (decide (t72.fst < (↑s70.len : Int)))
                (RunQ .sl P (Instr.loadAt T_sl_api_Commit (.pointer (some (Go.Addr.add a38 10)))) w73 fun (s74 : Sl) =>
                RunQ .addr P (Instr.indexAt T_sl_api_Commit s74.v (.int .i64 (IntKind.i64.wrap (t49.fst + 1)))) w73 fun (a75 : Addr) =>
                RunQ .sl P (Instr.loadAt T_sl_uint8 (.pointer (some (Go.Addr.add a75 1)))) w73 fun (s76 : Sl) =>
                RunQ .addr P (Instr.indexAt T_sl_uint8 s76.v (.int .i64 t72.fst)) w73 fun (a77 : Addr) =>
                StoreP P T_uint8 (.pointer (some a77)) (.int .u8 2) w73 fun w78 =>
                RunQ .sl P (Instr.loadAt T_sl_api_Entry (.pointer (some ((Go.Addr.add a38 1).add 5)))) w78 fun (s79 : Sl) =>
                RunQ .addr P (Instr.indexAt T_sl_api_Entry s79.v (.int .i64 (IntKind.i64.wrap (t49.fst + 1)))) w78 fun (a80 : Addr) =>
                RunQ .sl P (Instr.loadAt T_sl_uint8 (.pointer (some (Go.Addr.add a80 1)))) w78 fun (s81 : Sl) =>
                RunQ .addr P (Instr.indexAt T_sl_uint8 s81.v (.int .i64 t72.fst)) w78 fun (a82 : Addr) =>
                StoreP P T_uint8 (.pointer (some a82)) (.int .u8 3) w78 fun w83 =>
                next71 (some ((IntKind.i64.wrap (t72.fst + 1)), ())) w83)
                (next48 (some ((IntKind.i64.wrap (t49.fst + 1)), ())) w73))
              (CallP P F_raft_Raft_Propose [(.pointer t2.fst), (.slice none 0 0)] w50 fun (v84 : Value) w85 =>
               TupP [(.int .i64), (.int .i64)] v84 fun (t86 : Int × Int × Unit) =>
                CallP P F_raft_Raft_Take [(.pointer t2.fst)] w85 fun (v87 : Value) w88 =>
                TyP .val v87 fun (v89 : Value) =>
                RunK .addr P (Instr.alloc T_api_Ready true (.tuple #[])) w88 fun (a90 : Addr) w91 =>
                StoreP P T_api_Ready (.pointer (some a90)) v89 w91 fun w92 =>
                LoopP (T := Int × Unit) (some (0, ())) w92 fun next93 t94 w95 =>
                ifB (decide (t94.fst < (↑x0.len : Int)))
                (RunQ .addr P (Instr.indexAt T_sl_sl_uint8 x0.v (.int .i64 t94.fst)) w95 fun (a96 : Addr) =>
                RunQ .sl P (Instr.loadAt T_sl_uint8 (.pointer (some a96))) w95 fun (s97 : Sl) =>
                RunQ .sl P (Instr.loadAt T_sl_api_Entry (.pointer (some ((Go.Addr.add a90 1).add 5)))) w95 fun (s98 : Sl) =>
                RunQ .addr P (Instr.indexAt T_sl_api_Entry s98.v (.int .i64 (IntKind.i64.wrap (t94.fst + 1)))) w95 fun (a99 : Addr) =>
                RunQ .sl P (Instr.loadAt T_sl_uint8 (.pointer (some (Go.Addr.add a99 1)))) w95 fun (s100 : Sl) =>
                CallP P F_ref03_Same [s100.v, s97.v] w95 fun (v101 : Value) w102 =>
                TyP .bool v101 fun (b103 : Bool) =>
                ifB (!b103)
                (R (.bool false) w102)
                (next93 (some ((IntKind.i64.wrap (t94.fst + 1)), ())) w102))
                (R (.bool true) w95))))
def an_law12_RaftOwn : Ann := ⟨[(13, []), (31, []), (26, []), (4, [])], [(5, [(5, (.int .i64))]), (18, [(67, (.int .i64))]), (9, [(42, (.int .i64))]), (32, [(137, (.int .i64))]), (27, [(101, (.int .i64))]), (41, [(167, (.int .i64))])], []⟩
theorem e_law12_RaftOwn (R : Value → World → Prop) (x0 : Sl) (w : World) : denF P an_law12_RaftOwn Try.f4 [x0.v] w R = S_law12_RaftOwn R x0 w := by kernel_rfl
theorem c_law12_RaftOwn {R : Value → World → Prop} {x0 : Sl} {w : World} (h : S_law12_RaftOwn R x0 w) : CallP P F_law12_RaftOwn [x0.v] w R := calls_of_denF (an := an_law12_RaftOwn) Try.func4 (by rw [e_law12_RaftOwn]; exact h)


/-- penstock/penstocklaw12.RaftGroup -/
def S_law12_RaftGroup (R : Value → World → Prop) (x0 : Int) (x1 : Sl) (w : World) : Prop :=
 CallP P F_law12_awake [] w fun (v0 : Value) w1 =>
 TyP .bool v0 fun (b2 : Bool) =>
  ifB (!b2)
   (R (.bool false) w1)
   (CallP P F_law12_begin [(.int .i64 (IntKind.i64.wrap (1 + IntKind.i64.wrap (Int.tmod x0 5))))] w1 fun (v3 : Value) w4 =>
    TyP .ptr v3 fun (p5 : Option Addr) =>
     nilCk p5 fun (a6 : Addr) =>
      RunQ .bool P (Instr.loadAt T_bool (.pointer (some (a6.add 6)))) w4 fun (b7 : Bool) =>
       ifB b7
        (R (.bool false) w4)
        (LoopP (T := Int × Unit) (some (0, ())) w4 fun next8 t9 w10 =>
         ifB (decide (t9.fst < (↑x1.len : Int)))
          (RunQ .addr P (Instr.indexAt T_sl_penstocklaw12_Act x1.v (.int .i64 t9.fst)) w10 fun (a11 : Addr) =>
           RunQ .val P (Instr.loadAt T_penstocklaw12_Act (.pointer (some a11))) w10 fun (v12 : Value) =>
            RunK .addr P (Instr.alloc T_penstocklaw12_Act true (.tuple #[])) w10 fun (a13 : Addr) w14 =>
             StoreP P T_penstocklaw12_Act (.pointer (some a13)) v12 w14 fun w15 =>
              RunQ .val P (Instr.loadAt T_penstocklaw12_Act (.pointer (some a13))) w15 fun (v16 : Value) =>
               CallP P F_law12_group_act [(.pointer p5), v16] w15 fun (v17 : Value) w18 =>
                TupP [] v17 fun (t19 : Unit) =>
                nilCk p5 fun (a20 : Addr) =>
                RunQ .bool P (Instr.loadAt T_bool (.pointer (some (a20.add 6)))) w18 fun (b21 : Bool) =>
                ifB b21
                (R (.bool false) w18)
                (next8 (some ((IntKind.i64.wrap (t9.fst + 1)), ())) w18))
          (R (.bool true) w10)))
def an_law12_RaftGroup : Ann := ⟨[], [(7, [(21, (.int .i64))])], []⟩
theorem e_law12_RaftGroup (R : Value → World → Prop) (x0 : Int) (x1 : Sl) (w : World) : denF P an_law12_RaftGroup Try.f5 [.int .u8 x0, x1.v] w R = S_law12_RaftGroup R x0 x1 w := by kernel_rfl
theorem c_law12_RaftGroup {R : Value → World → Prop} {x0 : Int} {x1 : Sl} {w : World} (h : S_law12_RaftGroup R x0 x1 w) : CallP P F_law12_RaftGroup [.int .u8 x0, x1.v] w R := calls_of_denF (an := an_law12_RaftGroup) Try.func5 (by rw [e_law12_RaftGroup]; exact h)


/-- penstock/penstocklaw12.RaftPiles -/
def S_law12_RaftPiles (R : Value → World → Prop) (x0 : Int) (w : World) : Prop :=
 CallP P F_law12_begin [(.int .i64 2)] w fun (v0 : Value) w1 =>
 TyP .ptr v0 fun (p2 : Option Addr) =>
  JoinP (T := Unit) (fun J3 =>
   CallP P F_law12_awake [] w1 fun (v6 : Value) w7 =>
    TyP .bool v6 fun (b8 : Bool) =>
     ifB (!b8)
      (R (.bool false) w7)
      (nilCk p2 fun (a9 : Addr) =>
       RunQ .bool P (Instr.loadAt T_bool (.pointer (some (a9.add 6)))) w7 fun (b10 : Bool) =>
        ifB b10
         (R (.bool false) w7)
         (J3 (some ()) w7)))
   fun t4 w5 =>
   CallP P F_law12_group_rounds [(.pointer p2), (.int .i64 20), (.int .i64 2)] w5 fun (v11 : Value) w12 =>
    TupP [] v11 fun (t13 : Unit) =>
     LoopP (T := Int × Int × Unit) (some ((-1), (0, ()))) w12 fun next14 t15 w16 =>
      ifB (decide (t15.snd.fst < 2))
       (nilCk p2 fun (a17 : Addr) =>
        RunQ .sl P (Instr.loadAt T_sl_p_raft_Raft (.pointer (some (a17.add 0)))) w16 fun (s18 : Sl) =>
         RunQ .addr P (Instr.indexAt T_sl_p_raft_Raft s18.v (.int .i64 t15.snd.fst)) w16 fun (a19 : Addr) =>
          RunQ .ptr P (Instr.loadAt T_p_raft_Raft (.pointer (some a19))) w16 fun (p20 : Option Addr) =>
           CallP P F_raft_Raft_State [(.pointer p20)] w16 fun (v21 : Value) w22 =>
            TupP [(.int .i64), (.int .i64), (.int .i64), (.int .i64), (.int .i64)] v21 fun (t23 : Int × Int × Int × Int × Int × Unit) =>
             ifB (t23.fst == 3)
              (next14 (some (t15.snd.fst, ((IntKind.i64.wrap (t15.snd.fst + 1)), ()))) w22)
              (next14 (some (t15.fst, ((IntKind.i64.wrap (t15.snd.fst + 1)), ()))) w22))
       (ifB (decide (t15.fst < 0))
        (R (.bool false) w16)
        (nilCk p2 fun (a24 : Addr) =>
         StoreP P T_sl_api_RMsg (.pointer (some (a24.add 2))) (.slice none 0 0) w16 fun w25 =>
          nilCk p2 fun (a26 : Addr) =>
           RunQ .sl P (Instr.loadAt T_sl_p_raft_Raft (.pointer (some (a26.add 0)))) w25 fun (s27 : Sl) =>
            RunQ .addr P (Instr.indexAt T_sl_p_raft_Raft s27.v (.int .i64 t15.fst)) w25 fun (a28 : Addr) =>
             RunQ .ptr P (Instr.loadAt T_p_raft_Raft (.pointer (some a28))) w25 fun (p29 : Option Addr) =>
              CallP P F_raft_Raft_State [(.pointer p29)] w25 fun (v30 : Value) w31 =>
               TupP [(.int .i64), (.int .i64), (.int .i64), (.int .i64), (.int .i64)] v30 fun (t32 : Int × Int × Int × Int × Int × Unit) =>
                LoopP (T := Int × Unit) (some (0, ())) w31 fun next33 t34 w35 =>
                ifB (decide (t34.fst < IntKind.i64.wrap (Int.tmod x0 90)))
                (nilCk p2 fun (a36 : Addr) =>
                RunQ .sl P (Instr.loadAt T_sl_p_raft_Raft (.pointer (some (a36.add 0)))) w35 fun (s37 : Sl) =>
                RunQ .addr P (Instr.indexAt T_sl_p_raft_Raft s37.v (.int .i64 t15.fst)) w35 fun (a38 : Addr) =>
                RunQ .ptr P (Instr.loadAt T_p_raft_Raft (.pointer (some a38))) w35 fun (p39 : Option Addr) =>
                RunK .sl P (Instr.buildSlice T_sl_uint8 1 #[(0, (.int .u8 (IntKind.u8.wrap t34.fst)))]) w35 fun (s40 : Sl) w41 =>
                CallP P F_raft_Raft_Propose [(.pointer p39), s40.v] w41 fun (v42 : Value) w43 =>
                TupP [(.int .i64), (.int .i64)] v42 fun (t44 : Int × Int × Unit) =>
                ifB (!(t44.snd.fst == 0) == decide (IntKind.i64.wrap (IntKind.i64.wrap (t32.snd.snd.snd.snd.fst - t32.snd.snd.snd.fst) + t34.fst) < 64))
                (R (.bool false) w43)
                (ifB (t44.snd.fst != 0)
                (ifB (t44.snd.fst != 3)
                (R (.bool false) w43)
                (next33 (some ((IntKind.i64.wrap (t34.fst + 1)), ())) w43))
                (next33 (some ((IntKind.i64.wrap (t34.fst + 1)), ())) w43)))
                (CallP P F_law12_group_take [(.pointer p2), (.int .i64 t15.fst)] w35 fun (v45 : Value) w46 =>
                TupP [] v45 fun (t47 : Unit) =>
                nilCk p2 fun (a48 : Addr) =>
                RunQ .sl P (Instr.loadAt T_sl_api_RMsg (.pointer (some (a48.add 2)))) w46 fun (s49 : Sl) =>
                LoopP (T := Int × Unit) (some (0, ())) w46 fun next50 t51 w52 =>
                ifB (decide (t51.fst < (↑s49.len : Int)))
                (RunQ .addr P (Instr.indexAt T_sl_api_RMsg s49.v (.int .i64 t51.fst)) w52 fun (a53 : Addr) =>
                RunQ .val P (Instr.loadAt T_api_RMsg (.pointer (some a53))) w52 fun (v54 : Value) =>
                RunK .addr P (Instr.alloc T_api_RMsg true (.tuple #[])) w52 fun (a55 : Addr) w56 =>
                StoreP P T_api_RMsg (.pointer (some a55)) v54 w56 fun w57 =>
                RunQ .sl P (Instr.loadAt T_sl_api_Entry (.pointer (some (Go.Addr.add a55 8)))) w57 fun (s58 : Sl) =>
                ifB (decide ((↑s58.len : Int) > 16))
                (R (.bool false) w57)
                (next50 (some ((IntKind.i64.wrap (t51.fst + 1)), ())) w57))
                (nilCk p2 fun (a59 : Addr) =>
                StoreP P T_sl_api_RMsg (.pointer (some (a59.add 2))) (.slice none 0 0) w52 fun w60 =>
                CallP P F_law12_group_rounds [(.pointer p2), (.int .i64 40), (.int .i64 2)] w60 fun (v61 : Value) w62 =>
                TupP [] v61 fun (t63 : Unit) =>
                nilCk p2 fun (a64 : Addr) =>
                RunQ .sl P (Instr.loadAt T_sl_p_raft_Raft (.pointer (some (a64.add 0)))) w62 fun (s65 : Sl) =>
                RunQ .addr P (Instr.indexAt T_sl_p_raft_Raft s65.v (.int .i64 t15.fst)) w62 fun (a66 : Addr) =>
                RunQ .ptr P (Instr.loadAt T_p_raft_Raft (.pointer (some a66))) w62 fun (p67 : Option Addr) =>
                CallP P F_raft_Raft_State [(.pointer p67)] w62 fun (v68 : Value) w69 =>
                TupP [(.int .i64), (.int .i64), (.int .i64), (.int .i64), (.int .i64)] v68 fun (t70 : Int × Int × Int × Int × Int × Unit) =>
                nilCk p2 fun (a71 : Addr) =>
                RunQ .sl P (Instr.loadAt T_sl_p_raft_Raft (.pointer (some (a71.add 0)))) w69 fun (s72 : Sl) =>
                RunQ .addr P (Instr.indexAt T_sl_p_raft_Raft s72.v (.int .i64 t15.fst)) w69 fun (a73 : Addr) =>
                RunQ .ptr P (Instr.loadAt T_p_raft_Raft (.pointer (some a73))) w69 fun (p74 : Option Addr) =>
                CallP P F_raft_Raft_Propose [(.pointer p74), (.slice none 0 0)] w69 fun (v75 : Value) w76 =>
                TupP [(.int .i64), (.int .i64)] v75 fun (t77 : Int × Int × Unit) =>
                ifB (t70.snd.snd.snd.fst == t70.snd.snd.snd.snd.fst)
                (ifB (t77.snd.fst == 0)
                (nilCk p2 fun (a78 : Addr) =>
                RunQ .bool P (Instr.loadAt T_bool (.pointer (some (a78.add 6)))) w76 fun (b79 : Bool) =>
                R (.bool (!b79)) w76)
                (R (.bool false) w76))
                (R (.bool false) w76)))))
def an_law12_RaftPiles : Ann := ⟨[(4, [])], [(7, [(4, (.int .i64)), (5, (.int .i64))]), (18, [(17, (.int .i64))]), (25, [(122, (.int .i64))])], []⟩
theorem e_law12_RaftPiles (R : Value → World → Prop) (x0 : Int) (w : World) : denF P an_law12_RaftPiles Try.f6 [.int .u8 x0] w R = S_law12_RaftPiles R x0 w := by kernel_rfl
theorem c_law12_RaftPiles {R : Value → World → Prop} {x0 : Int} {w : World} (h : S_law12_RaftPiles R x0 w) : CallP P F_law12_RaftPiles [.int .u8 x0] w R := calls_of_denF (an := an_law12_RaftPiles) Try.func6 (by rw [e_law12_RaftPiles]; exact h)


/-- penstock/penstocklaw12.RaftNone -/
def S_law12_RaftNone (R : Value → World → Prop) (x0 : Value) (w : World) : Prop :=
 RunK .addr P (Instr.box T_penstocklaw12_Op x0) w fun (a0 : Addr) w1 =>
 RunQ (.int .u64) P (Instr.loadAt T_uint64 (.pointer (some (Go.Addr.add a0 1)))) w1 fun (n2 : Int) =>
  CallP P F_raft_Raft_Tick [(.pointer none), (.int .u64 n2)] w1 fun (v3 : Value) w4 =>
   TupP [] v3 fun (t5 : Unit) =>
    RunQ .val P (Instr.loadAt T_api_RMsg (.pointer (some (Go.Addr.add a0 4)))) w4 fun (v6 : Value) =>
     CallP P F_raft_Raft_Step [(.pointer none), v6] w4 fun (v7 : Value) w8 =>
      TupP [] v7 fun (t9 : Unit) =>
       CallP P F_raft_Raft_Take [(.pointer none)] w8 fun (v10 : Value) w11 =>
        TyP .val v10 fun (v12 : Value) =>
         RunK .addr P (Instr.alloc T_api_Ready true (.tuple #[])) w11 fun (a13 : Addr) w14 =>
          StoreP P T_api_Ready (.pointer (some a13)) v12 w14 fun w15 =>
           CallP P F_raft_Raft_State [(.pointer none)] w15 fun (v16 : Value) w17 =>
            TupP [(.int .i64), (.int .i64), (.int .i64), (.int .i64), (.int .i64)] v16 fun (t18 : Int × Int × Int × Int × Int × Unit) =>
             RunQ .sl P (Instr.loadAt T_sl_uint8 (.pointer (some (Go.Addr.add a0 3)))) w17 fun (s19 : Sl) =>
              CallP P F_raft_Raft_Propose [(.pointer none), s19.v] w17 fun (v20 : Value) w21 =>
               TupP [(.int .i64), (.int .i64)] v20 fun (t22 : Int × Int × Unit) =>
                CallP P F_law12_awake [] w21 fun (v23 : Value) w24 =>
                TyP .bool v23 fun (b25 : Bool) =>
                ifB b25
                (RunQ .bool P (Instr.loadAt T_bool (.pointer (some (Go.Addr.add a13 0)))) w24 fun (b26 : Bool) =>
                ifB (!b26)
                (RunQ .bool P (Instr.loadAt T_bool (.pointer (some (Go.Addr.add a13 8)))) w24 fun (b27 : Bool) =>
                ifB (!b27)
                (RunQ .sl P (Instr.loadAt T_sl_api_RMsg (.pointer (some (Go.Addr.add a13 7)))) w24 fun (s28 : Sl) =>
                RunQ .sl P (Instr.loadAt T_sl_api_Commit (.pointer (some (Go.Addr.add a13 10)))) w24 fun (s29 : Sl) =>
                ifB (IntKind.i64.wrap ((↑s28.len : Int) + (↑s29.len : Int)) == 0)
                (ifB (t18.fst == 0)
                (ifB (t18.snd.fst == 0)
                (ifB (t18.snd.snd.fst == 0)
                (ifB (t18.snd.snd.snd.fst == 0)
                (ifB (t18.snd.snd.snd.snd.fst == 0)
                (ifB (t22.fst == 0)
                (ifB (t22.snd.fst == 5)
                (RunQ (.int .i64) P (Instr.loadAt T_int (.pointer (some (Go.Addr.add a0 2)))) w24 fun (n30 : Int) =>
                RunQ .sl P (Instr.loadAt T_sl_uint8 (.pointer (some (Go.Addr.add a0 3)))) w24 fun (s31 : Sl) =>
                CallP P F_raft_Raft_Compact [(.pointer none), (.int .i64 n30), s31.v] w24 fun (v32 : Value) w33 =>
                TyP (.int .i64) v32 fun (n34 : Int) =>
                R (.bool (n34 == 5)) w33)
                (R (.bool false) w24))
                (R (.bool false) w24))
                (R (.bool false) w24))
                (R (.bool false) w24))
                (R (.bool false) w24))
                (R (.bool false) w24))
                (R (.bool false) w24))
                (R (.bool false) w24))
                (R (.bool false) w24))
                (R (.bool false) w24))
                (R (.bool false) w24)
def an_law12_RaftNone : Ann := ⟨[], [], []⟩
theorem e_law12_RaftNone (R : Value → World → Prop) (x0 : Value) (w : World) : denF P an_law12_RaftNone Try.f7 [x0] w R = S_law12_RaftNone R x0 w := by kernel_rfl
theorem c_law12_RaftNone {R : Value → World → Prop} {x0 : Value} {w : World} (h : S_law12_RaftNone R x0 w) : CallP P F_law12_RaftNone [x0] w R := calls_of_denF (an := an_law12_RaftNone) Try.func7 (by rw [e_law12_RaftNone]; exact h)


/-- penstock/penstocklaw12.awake -/
def S_law12_awake (R : Value → World → Prop) (w : World) : Prop :=
 CallP P F_raft_New [(.int .i64 0), (.int .i64 1), (.agg #[(.int .i64 0), (.int .i64 (-1)), (.int .i64 0), (.int .i64 0), (.slice none 0 0), (.slice none 0 0)])] w fun (v0 : Value) w1 =>
 TupP [.ptr, (.int .i64)] v0 fun (t2 : Option Addr × Int × Unit) =>
  JoinP (T := Unit) (fun J3 =>
   ifB (Option.isNone t2.fst)
    (R (.bool false) w1)
    (ifB (t2.snd.fst != 0)
     (R (.bool false) w1)
     (J3 (some ()) w1)))
   fun t4 w5 =>
   LoopP (T := Int × Unit) (some (0, ())) w5 fun next6 t7 w8 =>
    ifB (decide (t7.fst < 4))
     (CallP P F_raft_Raft_Tick [(.pointer t2.fst), (.int .u64 0)] w8 fun (v9 : Value) w10 =>
      TupP [] v9 fun (t11 : Unit) =>
       next6 (some ((IntKind.i64.wrap (t7.fst + 1)), ())) w10)
     (RunK .sl P (Instr.buildSlice T_sl_uint8 1 #[(0, (.int .u8 97))]) w8 fun (s12 : Sl) w13 =>
      RunK .sl P (convert T_sl_uint8 T_sl_uint8 s12.v) w13 fun (s14 : Sl) w15 =>
       CallP P F_raft_Raft_Propose [(.pointer t2.fst), s14.v] w15 fun (v16 : Value) w17 =>
        TupP [(.int .i64), (.int .i64)] v16 fun (t18 : Int × Int × Unit) =>
         CallP P F_raft_Raft_Take [(.pointer t2.fst)] w17 fun (v19 : Value) w20 =>
          TyP .val v19 fun (v21 : Value) =>
           RunK .addr P (Instr.alloc T_api_Ready true (.tuple #[])) w20 fun (a22 : Addr) w23 =>
            StoreP P T_api_Ready (.pointer (some a22)) v21 w23 fun w24 =>
             CallP P F_raft_Raft_State [(.pointer t2.fst)] w24 fun (v25 : Value) w26 =>
              TupP [(.int .i64), (.int .i64), (.int .i64), (.int .i64), (.int .i64)] v25 fun (t27 : Int × Int × Int × Int × Int × Unit) =>
               ifB (t18.snd.fst == 0)
                (ifB (t18.fst == 2)
                (ifB (t27.fst == 3)
                (ifB (t27.snd.fst == 1)
                (ifB (t27.snd.snd.fst == 0)
                (ifB (t27.snd.snd.snd.fst == 2)
                (ifB (t27.snd.snd.snd.snd.fst == 2)
                (RunQ .bool P (Instr.loadAt T_bool (.pointer (some (Go.Addr.add a22 0)))) w26 fun (b28 : Bool) =>
                ifB b28
                (RunQ .sl P (Instr.loadAt T_sl_api_Commit (.pointer (some (Go.Addr.add a22 10)))) w26 fun (s29 : Sl) =>
                ifB ((↑s29.len : Int) == 2)
                (RunQ .sl P (Instr.loadAt T_sl_api_Commit (.pointer (some (Go.Addr.add a22 10)))) w26 fun (s30 : Sl) =>
                RunQ .addr P (Instr.indexAt T_sl_api_Commit s30.v (.int .i64 1)) w26 fun (a31 : Addr) =>
                RunQ .sl P (Instr.loadAt T_sl_uint8 (.pointer (some (Go.Addr.add a31 1)))) w26 fun (s32 : Sl) =>
                RunK .str P (convert T_sl_uint8 T_string s32.v) w26 fun (t33 : ByteArray) w34 =>
                R (.bool (ByteArray.toList t33 == (ByteArray.mk #[97]).toList)) w34)
                (R (.bool false) w26))
                (R (.bool false) w26))
                (R (.bool false) w26))
                (R (.bool false) w26))
                (R (.bool false) w26))
                (R (.bool false) w26))
                (R (.bool false) w26))
                (R (.bool false) w26))
                (R (.bool false) w26))
def an_law12_awake : Ann := ⟨[(4, [])], [(5, [(3, (.int .i64))])], []⟩
theorem e_law12_awake (R : Value → World → Prop) (w : World) : denF P an_law12_awake Try.f10 [] w R = S_law12_awake R  w := by kernel_rfl
theorem c_law12_awake {R : Value → World → Prop} {w : World} (h : S_law12_awake R  w) : CallP P F_law12_awake [] w R := calls_of_denF (an := an_law12_awake) Try.func10 (by rw [e_law12_awake]; exact h)


/-- penstock/penstocklaw12.begin -/
def S_law12_begin (R : Value → World → Prop) (x0 : Int) (w : World) : Prop :=
 RunK .addr P (Instr.box T_penstocklaw12_group (.agg #[(.slice none 0 0), (.slice none 0 0), (.slice none 0 0), (.slice none 0 0), (.slice none 0 0), (.slice none 0 0), (.bool false)])) w fun (a0 : Addr) w1 =>
 LoopP (T := Int × Unit) (some (0, ())) w1 fun next2 t3 w4 =>
  ifB (decide (t3.fst < x0))
   (CallP P F_raft_New [(.int .i64 t3.fst), (.int .i64 x0), (.agg #[(.int .i64 0), (.int .i64 (-1)), (.int .i64 0), (.int .i64 0), (.slice none 0 0), (.slice none 0 0)])] w4 fun (v5 : Value) w6 =>
    TupP [.ptr, (.int .i64)] v5 fun (t7 : Option Addr × Int × Unit) =>
     RunQ .sl P (Instr.loadAt T_sl_p_raft_Raft (.pointer (some (Go.Addr.add a0 0)))) w6 fun (s8 : Sl) =>
      RunK .sl P (Instr.buildSlice T_sl_p_raft_Raft 1 #[(0, (.pointer t7.fst))]) w6 fun (s9 : Sl) w10 =>
       RunK .sl P (Builtin.append_ #[T_sl_p_raft_Raft, T_sl_p_raft_Raft] T_sl_p_raft_Raft #[s8.v, s9.v]) w10 fun (s11 : Sl) w12 =>
        StoreP P T_sl_p_raft_Raft (.pointer (some (Go.Addr.add a0 0))) s11.v w12 fun w13 =>
         RunQ .sl P (Instr.loadAt T_sl_api_Hard (.pointer (some (Go.Addr.add a0 1)))) w13 fun (s14 : Sl) =>
          RunK .sl P (Instr.buildSlice T_sl_api_Hard 1 #[(0, (.agg #[(.int .i64 0), (.int .i64 (-1)), (.int .i64 0), (.int .i64 0), (.slice none 0 0), (.slice none 0 0)]))]) w13 fun (s15 : Sl) w16 =>
           RunK .sl P (Builtin.append_ #[T_sl_api_Hard, T_sl_api_Hard] T_sl_api_Hard #[s14.v, s15.v]) w16 fun (s17 : Sl) w18 =>
            StoreP P T_sl_api_Hard (.pointer (some (Go.Addr.add a0 1))) s17.v w18 fun w19 =>
             RunQ .sl P (Instr.loadAt T_sl_int (.pointer (some (Go.Addr.add a0 5)))) w19 fun (s20 : Sl) =>
              RunK .sl P (Instr.buildSlice T_sl_int 1 #[(0, (.int .i64 0))]) w19 fun (s21 : Sl) w22 =>
               RunK .sl P (Builtin.append_ #[T_sl_int, T_sl_int] T_sl_int #[s20.v, s21.v]) w22 fun (s23 : Sl) w24 =>
                StoreP P T_sl_int (.pointer (some (Go.Addr.add a0 5))) s23.v w24 fun w25 =>
                RunQ .bool P (Instr.loadAt T_bool (.pointer (some (Go.Addr.add a0 6)))) w25 fun (b26 : Bool) =>
                ifB b26
                (StoreP P T_bool (.pointer (some (Go.Addr.add a0 6))) (.bool true) w25 fun w27 =>
                next2 (some ((IntKind.i64.wrap (t3.fst + 1)), ())) w27)
                (StoreP P T_bool (.pointer (some (Go.Addr.add a0 6))) (.bool (Option.isNone t7.fst)) w25 fun w28 =>
                next2 (some ((IntKind.i64.wrap (t3.fst + 1)), ())) w28))
   (R (.pointer (some a0)) w4)
def an_law12_begin : Ann := ⟨[], [(3, [(4, (.int .i64))])], []⟩
theorem e_law12_begin (R : Value → World → Prop) (x0 : Int) (w : World) : denF P an_law12_begin Try.f16 [.int .i64 x0] w R = S_law12_begin R x0 w := by kernel_rfl
theorem c_law12_begin {R : Value → World → Prop} {x0 : Int} {w : World} (h : S_law12_begin R x0 w) : CallP P F_law12_begin [.int .i64 x0] w R := calls_of_denF (an := an_law12_begin) Try.func16 (by rw [e_law12_begin]; exact h)


/-- (*penstock/penstocklaw12.group).act -/
def S_law12_group_act (R : Value → World → Prop) (x0 : Option Addr) (x1 : Value) (w : World) : Prop :=
 RunK .addr P (Instr.box T_penstocklaw12_Act x1) w fun (a0 : Addr) w1 =>
 ∃ S2 : World → Prop, (S2 w1.drew) ∧
   HRun S2 (.int .i64) P (Instr.loadAt T_int (.pointer (some (Go.Addr.add a0 1)))) fun (n3 : Int) =>
    nilCk x0 fun (a4 : Addr) =>
     HRun S2 .sl P (Instr.loadAt T_sl_p_raft_Raft (.pointer (some (a4.add 0)))) fun (s5 : Sl) =>
      CallP P F_law12_round [(.int .i64 n3), (.int .i64 ((↑s5.len : Int)))] w1.drew fun (v6 : Value) w7 =>
       TyP (.int .i64) v6 fun (n8 : Int) =>
        (S2 w7) ∧
         RunQ (.int .i64) P (Instr.loadAt T_int (.pointer (some (Go.Addr.add a0 0)))) w7 fun (n9 : Int) =>
          ifB (n9 == 0)
           (∃ S10 : World → Prop, (S10 w7.drew) ∧
             nilCk x0 fun (a11 : Addr) =>
              HRun S10 .sl P (Instr.loadAt T_sl_p_raft_Raft (.pointer (some (a11.add 0)))) fun (s12 : Sl) =>
               HRun S10 .addr P (Instr.indexAt T_sl_p_raft_Raft s12.v (.int .i64 n8)) fun (a13 : Addr) =>
                HRun S10 .ptr P (Instr.loadAt T_p_raft_Raft (.pointer (some a13))) fun (p14 : Option Addr) =>
                HRun S10 (.int .i64) P (Instr.loadAt T_int (.pointer (some (Go.Addr.add a0 2)))) fun (n15 : Int) =>
                CallP P F_raft_Raft_Tick [(.pointer p14), (.int .u64 (IntKind.u64.wrap n15))] w7.drew fun (v16 : Value) w17 =>
                TupP [] v16 fun (t18 : Unit) =>
                (S10 w17) ∧
                CallP P F_law12_group_take [(.pointer x0), (.int .i64 n8)] w17 fun (v19 : Value) w20 =>
                TupP [] v19 fun (t21 : Unit) =>
                R (.tuple #[]) w20)
           (ifB (n9 == 1)
            (nilCk x0 fun (a22 : Addr) =>
             RunQ .sl P (Instr.loadAt T_sl_api_RMsg (.pointer (some (a22.add 2)))) w7 fun (s23 : Sl) =>
              ifB ((↑s23.len : Int) == 0)
               (R (.tuple #[]) w7)
               (∃ S24 : World → Prop, (S24 w7.drew) ∧
                HRun S24 (.int .i64) P (Instr.loadAt T_int (.pointer (some (Go.Addr.add a0 1)))) fun (n25 : Int) =>
                nilCk x0 fun (a26 : Addr) =>
                HRun S24 .sl P (Instr.loadAt T_sl_api_RMsg (.pointer (some (a26.add 2)))) fun (s27 : Sl) =>
                (CallP P F_law12_round [(.int .i64 n25), (.int .i64 ((↑s27.len : Int)))] w7.drew fun (v28 : Value) w29 =>
                TyP (.int .i64) v28 fun (n30 : Int) =>
                (S24 w29) ∧
                (CallP P F_law12_group_out [(.pointer x0), (.int .i64 n30)] w29 fun (v31 : Value) w32 =>
                TyP .val v31 fun (v33 : Value) =>
                (S24 w32) ∧
                RunK .addr P (Instr.alloc T_api_RMsg true (.tuple #[])) w32 fun (a34 : Addr) w35 =>
                (S24 w35) ∧
                StoreP P T_api_RMsg (.pointer (some a34)) v33 w35 fun w36 =>
                (S24 w36) ∧
                RunQ (.int .i64) P (Instr.loadAt T_int (.pointer (some (Go.Addr.add a0 0)))) w36 fun (n37 : Int) =>
                ifB (n37 == 3)
                (∃ S38 : World → Prop, (S38 w36.drew) ∧
                nilCk x0 fun (a39 : Addr) =>
                HRun S38 .val P (Instr.loadAt T_api_RMsg (.pointer (some a34))) fun (v40 : Value) =>
                HRun S38 .val P (Instr.loadAt T_api_RMsg (.pointer (some a34))) fun (v41 : Value) =>
                (RunQ .sl P (Instr.loadAt T_sl_api_RMsg (.pointer (some (a39.add 2)))) w36.drew fun (s42 : Sl) =>
                (S38 w36.drew) ∧
                CallP P F_law12_ownMsg [v41] w36.drew fun (v43 : Value) w44 =>
                TyP .val v43 fun (v45 : Value) =>
                (S38 w44) ∧
                RunK .sl P (Instr.buildSlice T_sl_api_RMsg 2 #[(0, v40), (1, v45)]) w44 fun (s46 : Sl) w47 =>
                (S38 w47) ∧
                RunK .sl P (Builtin.append_ #[T_sl_api_RMsg, T_sl_api_RMsg] T_sl_api_RMsg #[s42.v, s46.v]) w47 fun (s48 : Sl) w49 =>
                (S38 w49) ∧
                nilCk x0 fun (a50 : Addr) =>
                StoreP P T_sl_api_RMsg (.pointer (some (a50.add 2))) s48.v w49 fun w51 =>
                (S38 w51) ∧
                R (.tuple #[]) w51) ∧
                (CallP P F_law12_ownMsg [v41] w36.drew fun (v52 : Value) w53 =>
                TyP .val v52 fun (v54 : Value) =>
                (S38 w53) ∧
                (RunQ .sl P (Instr.loadAt T_sl_api_RMsg (.pointer (some (a39.add 2)))) w53 fun (s55 : Sl) =>
                (S38 w53) ∧
                RunK .sl P (Instr.buildSlice T_sl_api_RMsg 2 #[(0, v40), (1, v54)]) w53 fun (s56 : Sl) w57 =>
                (S38 w57) ∧
                RunK .sl P (Builtin.append_ #[T_sl_api_RMsg, T_sl_api_RMsg] T_sl_api_RMsg #[s55.v, s56.v]) w57 fun (s58 : Sl) w59 =>
                (S38 w59) ∧
                nilCk x0 fun (a60 : Addr) =>
                StoreP P T_sl_api_RMsg (.pointer (some (a60.add 2))) s58.v w59 fun w61 =>
                (S38 w61) ∧
                R (.tuple #[]) w61) ∧
                (RunK .sl P (Instr.buildSlice T_sl_api_RMsg 2 #[(0, v40), (1, v54)]) w53 fun (s62 : Sl) w63 =>
                (S38 w63) ∧
                RunQ .sl P (Instr.loadAt T_sl_api_RMsg (.pointer (some (a39.add 2)))) w63 fun (s64 : Sl) =>
                (S38 w63) ∧
                RunK .sl P (Builtin.append_ #[T_sl_api_RMsg, T_sl_api_RMsg] T_sl_api_RMsg #[s64.v, s62.v]) w63 fun (s65 : Sl) w66 =>
                (S38 w66) ∧
                nilCk x0 fun (a67 : Addr) =>
                StoreP P T_sl_api_RMsg (.pointer (some (a67.add 2))) s65.v w66 fun w68 =>
                (S38 w68) ∧
                R (.tuple #[]) w68) ∧
                True) ∧
                True)
                (JoinP (T := Unit) (fun J69 =>
                RunQ (.int .i64) P (Instr.loadAt T_int (.pointer (some (Go.Addr.add a0 0)))) w36.drew fun (n72 : Int) =>
                ifB (n72 == 2)
                (R (.tuple #[]) w36.drew)
                (RunQ (.int .i64) P (Instr.loadAt T_int (.pointer (some (Go.Addr.add a34 2)))) w36.drew fun (n73 : Int) =>
                ifB (decide (n73 < 0))
                (R (.tuple #[]) w36.drew)
                (RunQ (.int .i64) P (Instr.loadAt T_int (.pointer (some (Go.Addr.add a34 2)))) w36.drew fun (n74 : Int) =>
                nilCk x0 fun (a75 : Addr) =>
                RunQ .sl P (Instr.loadAt T_sl_p_raft_Raft (.pointer (some (a75.add 0)))) w36.drew fun (s76 : Sl) =>
                ifB (decide (n74 ≥ (↑s76.len : Int)))
                (R (.tuple #[]) w36.drew)
                (J69 (some ()) w36.drew))))
                fun t70 w71 =>
                RunQ (.int .i64) P (Instr.loadAt T_int (.pointer (some (Go.Addr.add a34 2)))) w71 fun (n77 : Int) =>
                ∃ S78 : World → Prop, (S78 w71.drew) ∧
                nilCk x0 fun (a79 : Addr) =>
                HRun S78 .sl P (Instr.loadAt T_sl_p_raft_Raft (.pointer (some (a79.add 0)))) fun (s80 : Sl) =>
                HRun S78 .addr P (Instr.indexAt T_sl_p_raft_Raft s80.v (.int .i64 n77)) fun (a81 : Addr) =>
                HRun S78 .ptr P (Instr.loadAt T_p_raft_Raft (.pointer (some a81))) fun (p82 : Option Addr) =>
                HRun S78 .val P (Instr.loadAt T_api_RMsg (.pointer (some a34))) fun (v83 : Value) =>
                CallP P F_raft_Raft_Step [(.pointer p82), v83] w71.drew fun (v84 : Value) w85 =>
                TupP [] v84 fun (t86 : Unit) =>
                (S78 w85) ∧
                CallP P F_law12_group_take [(.pointer x0), (.int .i64 n77)] w85 fun (v87 : Value) w88 =>
                TupP [] v87 fun (t89 : Unit) =>
                R (.tuple #[]) w88)) ∧
                (RunK .addr P (Instr.alloc T_api_RMsg true (.tuple #[])) w29 fun (a90 : Addr) w91 =>
                (S24 w91) ∧
                CallP P F_law12_group_out [(.pointer x0), (.int .i64 n30)] w91 fun (v92 : Value) w93 =>
                TyP .val v92 fun (v94 : Value) =>
                (S24 w93) ∧
                StoreP P T_api_RMsg (.pointer (some a90)) v94 w93 fun w95 =>
                (S24 w95) ∧
                RunQ (.int .i64) P (Instr.loadAt T_int (.pointer (some (Go.Addr.add a0 0)))) w95 fun (n96 : Int) =>
                ifB (n96 == 3)
                (∃ S97 : World → Prop, (S97 w95.drew) ∧
                nilCk x0 fun (a98 : Addr) =>
                HRun S97 .val P (Instr.loadAt T_api_RMsg (.pointer (some a90))) fun (v99 : Value) =>
                HRun S97 .val P (Instr.loadAt T_api_RMsg (.pointer (some a90))) fun (v100 : Value) =>
                (RunQ .sl P (Instr.loadAt T_sl_api_RMsg (.pointer (some (a98.add 2)))) w95.drew fun (s101 : Sl) =>
                (S97 w95.drew) ∧
                CallP P F_law12_ownMsg [v100] w95.drew fun (v102 : Value) w103 =>
                TyP .val v102 fun (v104 : Value) =>
                (S97 w103) ∧
                RunK .sl P (Instr.buildSlice T_sl_api_RMsg 2 #[(0, v99), (1, v104)]) w103 fun (s105 : Sl) w106 =>
                (S97 w106) ∧
                RunK .sl P (Builtin.append_ #[T_sl_api_RMsg, T_sl_api_RMsg] T_sl_api_RMsg #[s101.v, s105.v]) w106 fun (s107 : Sl) w108 =>
                (S97 w108) ∧
                nilCk x0 fun (a109 : Addr) =>
                StoreP P T_sl_api_RMsg (.pointer (some (a109.add 2))) s107.v w108 fun w110 =>
                (S97 w110) ∧
                R (.tuple #[]) w110) ∧
                (CallP P F_law12_ownMsg [v100] w95.drew fun (v111 : Value) w112 =>
                TyP .val v111 fun (v113 : Value) =>
                (S97 w112) ∧
                (RunQ .sl P (Instr.loadAt T_sl_api_RMsg (.pointer (some (a98.add 2)))) w112 fun (s114 : Sl) =>
                (S97 w112) ∧
                RunK .sl P (Instr.buildSlice T_sl_api_RMsg 2 #[(0, v99), (1, v113)]) w112 fun (s115 : Sl) w116 =>
                (S97 w116) ∧
                RunK .sl P (Builtin.append_ #[T_sl_api_RMsg, T_sl_api_RMsg] T_sl_api_RMsg #[s114.v, s115.v]) w116 fun (s117 : Sl) w118 =>
                (S97 w118) ∧
                nilCk x0 fun (a119 : Addr) =>
                StoreP P T_sl_api_RMsg (.pointer (some (a119.add 2))) s117.v w118 fun w120 =>
                (S97 w120) ∧
                R (.tuple #[]) w120) ∧
                (RunK .sl P (Instr.buildSlice T_sl_api_RMsg 2 #[(0, v99), (1, v113)]) w112 fun (s121 : Sl) w122 =>
                (S97 w122) ∧
                RunQ .sl P (Instr.loadAt T_sl_api_RMsg (.pointer (some (a98.add 2)))) w122 fun (s123 : Sl) =>
                (S97 w122) ∧
                RunK .sl P (Builtin.append_ #[T_sl_api_RMsg, T_sl_api_RMsg] T_sl_api_RMsg #[s123.v, s121.v]) w122 fun (s124 : Sl) w125 =>
                (S97 w125) ∧
                nilCk x0 fun (a126 : Addr) =>
                StoreP P T_sl_api_RMsg (.pointer (some (a126.add 2))) s124.v w125 fun w127 =>
                (S97 w127) ∧
                R (.tuple #[]) w127) ∧
                True) ∧
                True)
                (JoinP (T := Unit) (fun J128 =>
                RunQ (.int .i64) P (Instr.loadAt T_int (.pointer (some (Go.Addr.add a0 0)))) w95.drew fun (n131 : Int) =>
                ifB (n131 == 2)
                (R (.tuple #[]) w95.drew)
                (RunQ (.int .i64) P (Instr.loadAt T_int (.pointer (some (Go.Addr.add a90 2)))) w95.drew fun (n132 : Int) =>
                ifB (decide (n132 < 0))
                (R (.tuple #[]) w95.drew)
                (RunQ (.int .i64) P (Instr.loadAt T_int (.pointer (some (Go.Addr.add a90 2)))) w95.drew fun (n133 : Int) =>
                nilCk x0 fun (a134 : Addr) =>
                RunQ .sl P (Instr.loadAt T_sl_p_raft_Raft (.pointer (some (a134.add 0)))) w95.drew fun (s135 : Sl) =>
                ifB (decide (n133 ≥ (↑s135.len : Int)))
                (R (.tuple #[]) w95.drew)
                (J128 (some ()) w95.drew))))
                fun t129 w130 =>
                RunQ (.int .i64) P (Instr.loadAt T_int (.pointer (some (Go.Addr.add a90 2)))) w130 fun (n136 : Int) =>
                ∃ S137 : World → Prop, (S137 w130.drew) ∧
                nilCk x0 fun (a138 : Addr) =>
                HRun S137 .sl P (Instr.loadAt T_sl_p_raft_Raft (.pointer (some (a138.add 0)))) fun (s139 : Sl) =>
                HRun S137 .addr P (Instr.indexAt T_sl_p_raft_Raft s139.v (.int .i64 n136)) fun (a140 : Addr) =>
                HRun S137 .ptr P (Instr.loadAt T_p_raft_Raft (.pointer (some a140))) fun (p141 : Option Addr) =>
                HRun S137 .val P (Instr.loadAt T_api_RMsg (.pointer (some a90))) fun (v142 : Value) =>
                CallP P F_raft_Raft_Step [(.pointer p141), v142] w130.drew fun (v143 : Value) w144 =>
                TupP [] v143 fun (t145 : Unit) =>
                (S137 w144) ∧
                CallP P F_law12_group_take [(.pointer x0), (.int .i64 n136)] w144 fun (v146 : Value) w147 =>
                TupP [] v146 fun (t148 : Unit) =>
                R (.tuple #[]) w147)) ∧
                True) ∧
                (RunK .addr P (Instr.alloc T_api_RMsg true (.tuple #[])) w7.drew fun (a149 : Addr) w150 =>
                (S24 w150) ∧
                CallP P F_law12_round [(.int .i64 n25), (.int .i64 ((↑s27.len : Int)))] w150 fun (v151 : Value) w152 =>
                TyP (.int .i64) v151 fun (n153 : Int) =>
                (S24 w152) ∧
                CallP P F_law12_group_out [(.pointer x0), (.int .i64 n153)] w152 fun (v154 : Value) w155 =>
                TyP .val v154 fun (v156 : Value) =>
                (S24 w155) ∧
                StoreP P T_api_RMsg (.pointer (some a149)) v156 w155 fun w157 =>
                (S24 w157) ∧
                RunQ (.int .i64) P (Instr.loadAt T_int (.pointer (some (Go.Addr.add a0 0)))) w157 fun (n158 : Int) =>
                ifB (n158 == 3)
                (∃ S159 : World → Prop, (S159 w157.drew) ∧
                nilCk x0 fun (a160 : Addr) =>
                HRun S159 .val P (Instr.loadAt T_api_RMsg (.pointer (some a149))) fun (v161 : Value) =>
                HRun S159 .val P (Instr.loadAt T_api_RMsg (.pointer (some a149))) fun (v162 : Value) =>
                (RunQ .sl P (Instr.loadAt T_sl_api_RMsg (.pointer (some (a160.add 2)))) w157.drew fun (s163 : Sl) =>
                (S159 w157.drew) ∧
                CallP P F_law12_ownMsg [v162] w157.drew fun (v164 : Value) w165 =>
                TyP .val v164 fun (v166 : Value) =>
                (S159 w165) ∧
                RunK .sl P (Instr.buildSlice T_sl_api_RMsg 2 #[(0, v161), (1, v166)]) w165 fun (s167 : Sl) w168 =>
                (S159 w168) ∧
                RunK .sl P (Builtin.append_ #[T_sl_api_RMsg, T_sl_api_RMsg] T_sl_api_RMsg #[s163.v, s167.v]) w168 fun (s169 : Sl) w170 =>
                (S159 w170) ∧
                nilCk x0 fun (a171 : Addr) =>
                StoreP P T_sl_api_RMsg (.pointer (some (a171.add 2))) s169.v w170 fun w172 =>
                (S159 w172) ∧
                R (.tuple #[]) w172) ∧
                (CallP P F_law12_ownMsg [v162] w157.drew fun (v173 : Value) w174 =>
                TyP .val v173 fun (v175 : Value) =>
                (S159 w174) ∧
                (RunQ .sl P (Instr.loadAt T_sl_api_RMsg (.pointer (some (a160.add 2)))) w174 fun (s176 : Sl) =>
                (S159 w174) ∧
                RunK .sl P (Instr.buildSlice T_sl_api_RMsg 2 #[(0, v161), (1, v175)]) w174 fun (s177 : Sl) w178 =>
                (S159 w178) ∧
                RunK .sl P (Builtin.append_ #[T_sl_api_RMsg, T_sl_api_RMsg] T_sl_api_RMsg #[s176.v, s177.v]) w178 fun (s179 : Sl) w180 =>
                (S159 w180) ∧
                nilCk x0 fun (a181 : Addr) =>
                StoreP P T_sl_api_RMsg (.pointer (some (a181.add 2))) s179.v w180 fun w182 =>
                (S159 w182) ∧
                R (.tuple #[]) w182) ∧
                (RunK .sl P (Instr.buildSlice T_sl_api_RMsg 2 #[(0, v161), (1, v175)]) w174 fun (s183 : Sl) w184 =>
                (S159 w184) ∧
                RunQ .sl P (Instr.loadAt T_sl_api_RMsg (.pointer (some (a160.add 2)))) w184 fun (s185 : Sl) =>
                (S159 w184) ∧
                RunK .sl P (Builtin.append_ #[T_sl_api_RMsg, T_sl_api_RMsg] T_sl_api_RMsg #[s185.v, s183.v]) w184 fun (s186 : Sl) w187 =>
                (S159 w187) ∧
                nilCk x0 fun (a188 : Addr) =>
                StoreP P T_sl_api_RMsg (.pointer (some (a188.add 2))) s186.v w187 fun w189 =>
                (S159 w189) ∧
                R (.tuple #[]) w189) ∧
                True) ∧
                True)
                (JoinP (T := Unit) (fun J190 =>
                RunQ (.int .i64) P (Instr.loadAt T_int (.pointer (some (Go.Addr.add a0 0)))) w157.drew fun (n193 : Int) =>
                ifB (n193 == 2)
                (R (.tuple #[]) w157.drew)
                (RunQ (.int .i64) P (Instr.loadAt T_int (.pointer (some (Go.Addr.add a149 2)))) w157.drew fun (n194 : Int) =>
                ifB (decide (n194 < 0))
                (R (.tuple #[]) w157.drew)
                (RunQ (.int .i64) P (Instr.loadAt T_int (.pointer (some (Go.Addr.add a149 2)))) w157.drew fun (n195 : Int) =>
                nilCk x0 fun (a196 : Addr) =>
                RunQ .sl P (Instr.loadAt T_sl_p_raft_Raft (.pointer (some (a196.add 0)))) w157.drew fun (s197 : Sl) =>
                ifB (decide (n195 ≥ (↑s197.len : Int)))
                (R (.tuple #[]) w157.drew)
                (J190 (some ()) w157.drew))))
                fun t191 w192 =>
                RunQ (.int .i64) P (Instr.loadAt T_int (.pointer (some (Go.Addr.add a149 2)))) w192 fun (n198 : Int) =>
                ∃ S199 : World → Prop, (S199 w192.drew) ∧
                nilCk x0 fun (a200 : Addr) =>
                HRun S199 .sl P (Instr.loadAt T_sl_p_raft_Raft (.pointer (some (a200.add 0)))) fun (s201 : Sl) =>
                HRun S199 .addr P (Instr.indexAt T_sl_p_raft_Raft s201.v (.int .i64 n198)) fun (a202 : Addr) =>
                HRun S199 .ptr P (Instr.loadAt T_p_raft_Raft (.pointer (some a202))) fun (p203 : Option Addr) =>
                HRun S199 .val P (Instr.loadAt T_api_RMsg (.pointer (some a149))) fun (v204 : Value) =>
                CallP P F_raft_Raft_Step [(.pointer p203), v204] w192.drew fun (v205 : Value) w206 =>
                TupP [] v205 fun (t207 : Unit) =>
                (S199 w206) ∧
                CallP P F_law12_group_take [(.pointer x0), (.int .i64 n198)] w206 fun (v208 : Value) w209 =>
                TupP [] v208 fun (t210 : Unit) =>
                R (.tuple #[]) w209)) ∧
                True))
            (ifB (n9 == 2)
             (nilCk x0 fun (a211 : Addr) =>
              RunQ .sl P (Instr.loadAt T_sl_api_RMsg (.pointer (some (a211.add 2)))) w7 fun (s212 : Sl) =>
               ifB ((↑s212.len : Int) == 0)
                (R (.tuple #[]) w7)
                (∃ S213 : World → Prop, (S213 w7.drew) ∧
                HRun S213 (.int .i64) P (Instr.loadAt T_int (.pointer (some (Go.Addr.add a0 1)))) fun (n214 : Int) =>
                nilCk x0 fun (a215 : Addr) =>
                HRun S213 .sl P (Instr.loadAt T_sl_api_RMsg (.pointer (some (a215.add 2)))) fun (s216 : Sl) =>
                (CallP P F_law12_round [(.int .i64 n214), (.int .i64 ((↑s216.len : Int)))] w7.drew fun (v217 : Value) w218 =>
                TyP (.int .i64) v217 fun (n219 : Int) =>
                (S213 w218) ∧
                (CallP P F_law12_group_out [(.pointer x0), (.int .i64 n219)] w218 fun (v220 : Value) w221 =>
                TyP .val v220 fun (v222 : Value) =>
                (S213 w221) ∧
                RunK .addr P (Instr.alloc T_api_RMsg true (.tuple #[])) w221 fun (a223 : Addr) w224 =>
                (S213 w224) ∧
                StoreP P T_api_RMsg (.pointer (some a223)) v222 w224 fun w225 =>
                (S213 w225) ∧
                RunQ (.int .i64) P (Instr.loadAt T_int (.pointer (some (Go.Addr.add a0 0)))) w225 fun (n226 : Int) =>
                ifB (n226 == 3)
                (∃ S227 : World → Prop, (S227 w225.drew) ∧
                nilCk x0 fun (a228 : Addr) =>
                HRun S227 .val P (Instr.loadAt T_api_RMsg (.pointer (some a223))) fun (v229 : Value) =>
                HRun S227 .val P (Instr.loadAt T_api_RMsg (.pointer (some a223))) fun (v230 : Value) =>
                (RunQ .sl P (Instr.loadAt T_sl_api_RMsg (.pointer (some (a228.add 2)))) w225.drew fun (s231 : Sl) =>
                (S227 w225.drew) ∧
                CallP P F_law12_ownMsg [v230] w225.drew fun (v232 : Value) w233 =>
                TyP .val v232 fun (v234 : Value) =>
                (S227 w233) ∧
                RunK .sl P (Instr.buildSlice T_sl_api_RMsg 2 #[(0, v229), (1, v234)]) w233 fun (s235 : Sl) w236 =>
                (S227 w236) ∧
                RunK .sl P (Builtin.append_ #[T_sl_api_RMsg, T_sl_api_RMsg] T_sl_api_RMsg #[s231.v, s235.v]) w236 fun (s237 : Sl) w238 =>
                (S227 w238) ∧
                nilCk x0 fun (a239 : Addr) =>
                StoreP P T_sl_api_RMsg (.pointer (some (a239.add 2))) s237.v w238 fun w240 =>
                (S227 w240) ∧
                R (.tuple #[]) w240) ∧
                (CallP P F_law12_ownMsg [v230] w225.drew fun (v241 : Value) w242 =>
                TyP .val v241 fun (v243 : Value) =>
                (S227 w242) ∧
                (RunQ .sl P (Instr.loadAt T_sl_api_RMsg (.pointer (some (a228.add 2)))) w242 fun (s244 : Sl) =>
                (S227 w242) ∧
                RunK .sl P (Instr.buildSlice T_sl_api_RMsg 2 #[(0, v229), (1, v243)]) w242 fun (s245 : Sl) w246 =>
                (S227 w246) ∧
                RunK .sl P (Builtin.append_ #[T_sl_api_RMsg, T_sl_api_RMsg] T_sl_api_RMsg #[s244.v, s245.v]) w246 fun (s247 : Sl) w248 =>
                (S227 w248) ∧
                nilCk x0 fun (a249 : Addr) =>
                StoreP P T_sl_api_RMsg (.pointer (some (a249.add 2))) s247.v w248 fun w250 =>
                (S227 w250) ∧
                R (.tuple #[]) w250) ∧
                (RunK .sl P (Instr.buildSlice T_sl_api_RMsg 2 #[(0, v229), (1, v243)]) w242 fun (s251 : Sl) w252 =>
                (S227 w252) ∧
                RunQ .sl P (Instr.loadAt T_sl_api_RMsg (.pointer (some (a228.add 2)))) w252 fun (s253 : Sl) =>
                (S227 w252) ∧
                RunK .sl P (Builtin.append_ #[T_sl_api_RMsg, T_sl_api_RMsg] T_sl_api_RMsg #[s253.v, s251.v]) w252 fun (s254 : Sl) w255 =>
                (S227 w255) ∧
                nilCk x0 fun (a256 : Addr) =>
                StoreP P T_sl_api_RMsg (.pointer (some (a256.add 2))) s254.v w255 fun w257 =>
                (S227 w257) ∧
                R (.tuple #[]) w257) ∧
                True) ∧
                True)
                (JoinP (T := Unit) (fun J258 =>
                RunQ (.int .i64) P (Instr.loadAt T_int (.pointer (some (Go.Addr.add a0 0)))) w225.drew fun (n261 : Int) =>
                ifB (n261 == 2)
                (R (.tuple #[]) w225.drew)
                (RunQ (.int .i64) P (Instr.loadAt T_int (.pointer (some (Go.Addr.add a223 2)))) w225.drew fun (n262 : Int) =>
                ifB (decide (n262 < 0))
                (R (.tuple #[]) w225.drew)
                (RunQ (.int .i64) P (Instr.loadAt T_int (.pointer (some (Go.Addr.add a223 2)))) w225.drew fun (n263 : Int) =>
                nilCk x0 fun (a264 : Addr) =>
                RunQ .sl P (Instr.loadAt T_sl_p_raft_Raft (.pointer (some (a264.add 0)))) w225.drew fun (s265 : Sl) =>
                ifB (decide (n263 ≥ (↑s265.len : Int)))
                (R (.tuple #[]) w225.drew)
                (J258 (some ()) w225.drew))))
                fun t259 w260 =>
                RunQ (.int .i64) P (Instr.loadAt T_int (.pointer (some (Go.Addr.add a223 2)))) w260 fun (n266 : Int) =>
                ∃ S267 : World → Prop, (S267 w260.drew) ∧
                nilCk x0 fun (a268 : Addr) =>
                HRun S267 .sl P (Instr.loadAt T_sl_p_raft_Raft (.pointer (some (a268.add 0)))) fun (s269 : Sl) =>
                HRun S267 .addr P (Instr.indexAt T_sl_p_raft_Raft s269.v (.int .i64 n266)) fun (a270 : Addr) =>
                HRun S267 .ptr P (Instr.loadAt T_p_raft_Raft (.pointer (some a270))) fun (p271 : Option Addr) =>
                HRun S267 .val P (Instr.loadAt T_api_RMsg (.pointer (some a223))) fun (v272 : Value) =>
                CallP P F_raft_Raft_Step [(.pointer p271), v272] w260.drew fun (v273 : Value) w274 =>
                TupP [] v273 fun (t275 : Unit) =>
                (S267 w274) ∧
                CallP P F_law12_group_take [(.pointer x0), (.int .i64 n266)] w274 fun (v276 : Value) w277 =>
                TupP [] v276 fun (t278 : Unit) =>
                R (.tuple #[]) w277)) ∧
                (RunK .addr P (Instr.alloc T_api_RMsg true (.tuple #[])) w218 fun (a279 : Addr) w280 =>
                (S213 w280) ∧
                CallP P F_law12_group_out [(.pointer x0), (.int .i64 n219)] w280 fun (v281 : Value) w282 =>
                TyP .val v281 fun (v283 : Value) =>
                (S213 w282) ∧
                StoreP P T_api_RMsg (.pointer (some a279)) v283 w282 fun w284 =>
                (S213 w284) ∧
                RunQ (.int .i64) P (Instr.loadAt T_int (.pointer (some (Go.Addr.add a0 0)))) w284 fun (n285 : Int) =>
                ifB (n285 == 3)
                (∃ S286 : World → Prop, (S286 w284.drew) ∧
                nilCk x0 fun (a287 : Addr) =>
                HRun S286 .val P (Instr.loadAt T_api_RMsg (.pointer (some a279))) fun (v288 : Value) =>
                HRun S286 .val P (Instr.loadAt T_api_RMsg (.pointer (some a279))) fun (v289 : Value) =>
                (RunQ .sl P (Instr.loadAt T_sl_api_RMsg (.pointer (some (a287.add 2)))) w284.drew fun (s290 : Sl) =>
                (S286 w284.drew) ∧
                CallP P F_law12_ownMsg [v289] w284.drew fun (v291 : Value) w292 =>
                TyP .val v291 fun (v293 : Value) =>
                (S286 w292) ∧
                RunK .sl P (Instr.buildSlice T_sl_api_RMsg 2 #[(0, v288), (1, v293)]) w292 fun (s294 : Sl) w295 =>
                (S286 w295) ∧
                RunK .sl P (Builtin.append_ #[T_sl_api_RMsg, T_sl_api_RMsg] T_sl_api_RMsg #[s290.v, s294.v]) w295 fun (s296 : Sl) w297 =>
                (S286 w297) ∧
                nilCk x0 fun (a298 : Addr) =>
                StoreP P T_sl_api_RMsg (.pointer (some (a298.add 2))) s296.v w297 fun w299 =>
                (S286 w299) ∧
                R (.tuple #[]) w299) ∧
                (CallP P F_law12_ownMsg [v289] w284.drew fun (v300 : Value) w301 =>
                TyP .val v300 fun (v302 : Value) =>
                (S286 w301) ∧
                (RunQ .sl P (Instr.loadAt T_sl_api_RMsg (.pointer (some (a287.add 2)))) w301 fun (s303 : Sl) =>
                (S286 w301) ∧
                RunK .sl P (Instr.buildSlice T_sl_api_RMsg 2 #[(0, v288), (1, v302)]) w301 fun (s304 : Sl) w305 =>
                (S286 w305) ∧
                RunK .sl P (Builtin.append_ #[T_sl_api_RMsg, T_sl_api_RMsg] T_sl_api_RMsg #[s303.v, s304.v]) w305 fun (s306 : Sl) w307 =>
                (S286 w307) ∧
                nilCk x0 fun (a308 : Addr) =>
                StoreP P T_sl_api_RMsg (.pointer (some (a308.add 2))) s306.v w307 fun w309 =>
                (S286 w309) ∧
                R (.tuple #[]) w309) ∧
                (RunK .sl P (Instr.buildSlice T_sl_api_RMsg 2 #[(0, v288), (1, v302)]) w301 fun (s310 : Sl) w311 =>
                (S286 w311) ∧
                RunQ .sl P (Instr.loadAt T_sl_api_RMsg (.pointer (some (a287.add 2)))) w311 fun (s312 : Sl) =>
                (S286 w311) ∧
                RunK .sl P (Builtin.append_ #[T_sl_api_RMsg, T_sl_api_RMsg] T_sl_api_RMsg #[s312.v, s310.v]) w311 fun (s313 : Sl) w314 =>
                (S286 w314) ∧
                nilCk x0 fun (a315 : Addr) =>
                StoreP P T_sl_api_RMsg (.pointer (some (a315.add 2))) s313.v w314 fun w316 =>
                (S286 w316) ∧
                R (.tuple #[]) w316) ∧
                True) ∧
                True)
                (JoinP (T := Unit) (fun J317 =>
                RunQ (.int .i64) P (Instr.loadAt T_int (.pointer (some (Go.Addr.add a0 0)))) w284.drew fun (n320 : Int) =>
                ifB (n320 == 2)
                (R (.tuple #[]) w284.drew)
                (RunQ (.int .i64) P (Instr.loadAt T_int (.pointer (some (Go.Addr.add a279 2)))) w284.drew fun (n321 : Int) =>
                ifB (decide (n321 < 0))
                (R (.tuple #[]) w284.drew)
                (RunQ (.int .i64) P (Instr.loadAt T_int (.pointer (some (Go.Addr.add a279 2)))) w284.drew fun (n322 : Int) =>
                nilCk x0 fun (a323 : Addr) =>
                RunQ .sl P (Instr.loadAt T_sl_p_raft_Raft (.pointer (some (a323.add 0)))) w284.drew fun (s324 : Sl) =>
                ifB (decide (n322 ≥ (↑s324.len : Int)))
                (R (.tuple #[]) w284.drew)
                (J317 (some ()) w284.drew))))
                fun t318 w319 =>
                RunQ (.int .i64) P (Instr.loadAt T_int (.pointer (some (Go.Addr.add a279 2)))) w319 fun (n325 : Int) =>
                ∃ S326 : World → Prop, (S326 w319.drew) ∧
                nilCk x0 fun (a327 : Addr) =>
                HRun S326 .sl P (Instr.loadAt T_sl_p_raft_Raft (.pointer (some (a327.add 0)))) fun (s328 : Sl) =>
                HRun S326 .addr P (Instr.indexAt T_sl_p_raft_Raft s328.v (.int .i64 n325)) fun (a329 : Addr) =>
                HRun S326 .ptr P (Instr.loadAt T_p_raft_Raft (.pointer (some a329))) fun (p330 : Option Addr) =>
                HRun S326 .val P (Instr.loadAt T_api_RMsg (.pointer (some a279))) fun (v331 : Value) =>
                CallP P F_raft_Raft_Step [(.pointer p330), v331] w319.drew fun (v332 : Value) w333 =>
                TupP [] v332 fun (t334 : Unit) =>
                (S326 w333) ∧
                CallP P F_law12_group_take [(.pointer x0), (.int .i64 n325)] w333 fun (v335 : Value) w336 =>
                TupP [] v335 fun (t337 : Unit) =>
                R (.tuple #[]) w336)) ∧
                True) ∧
                (RunK .addr P (Instr.alloc T_api_RMsg true (.tuple #[])) w7.drew fun (a338 : Addr) w339 =>
                (S213 w339) ∧
                CallP P F_law12_round [(.int .i64 n214), (.int .i64 ((↑s216.len : Int)))] w339 fun (v340 : Value) w341 =>
                TyP (.int .i64) v340 fun (n342 : Int) =>
                (S213 w341) ∧
                CallP P F_law12_group_out [(.pointer x0), (.int .i64 n342)] w341 fun (v343 : Value) w344 =>
                TyP .val v343 fun (v345 : Value) =>
                (S213 w344) ∧
                StoreP P T_api_RMsg (.pointer (some a338)) v345 w344 fun w346 =>
                (S213 w346) ∧
                RunQ (.int .i64) P (Instr.loadAt T_int (.pointer (some (Go.Addr.add a0 0)))) w346 fun (n347 : Int) =>
                ifB (n347 == 3)
                (∃ S348 : World → Prop, (S348 w346.drew) ∧
                nilCk x0 fun (a349 : Addr) =>
                HRun S348 .val P (Instr.loadAt T_api_RMsg (.pointer (some a338))) fun (v350 : Value) =>
                HRun S348 .val P (Instr.loadAt T_api_RMsg (.pointer (some a338))) fun (v351 : Value) =>
                (RunQ .sl P (Instr.loadAt T_sl_api_RMsg (.pointer (some (a349.add 2)))) w346.drew fun (s352 : Sl) =>
                (S348 w346.drew) ∧
                CallP P F_law12_ownMsg [v351] w346.drew fun (v353 : Value) w354 =>
                TyP .val v353 fun (v355 : Value) =>
                (S348 w354) ∧
                RunK .sl P (Instr.buildSlice T_sl_api_RMsg 2 #[(0, v350), (1, v355)]) w354 fun (s356 : Sl) w357 =>
                (S348 w357) ∧
                RunK .sl P (Builtin.append_ #[T_sl_api_RMsg, T_sl_api_RMsg] T_sl_api_RMsg #[s352.v, s356.v]) w357 fun (s358 : Sl) w359 =>
                (S348 w359) ∧
                nilCk x0 fun (a360 : Addr) =>
                StoreP P T_sl_api_RMsg (.pointer (some (a360.add 2))) s358.v w359 fun w361 =>
                (S348 w361) ∧
                R (.tuple #[]) w361) ∧
                (CallP P F_law12_ownMsg [v351] w346.drew fun (v362 : Value) w363 =>
                TyP .val v362 fun (v364 : Value) =>
                (S348 w363) ∧
                (RunQ .sl P (Instr.loadAt T_sl_api_RMsg (.pointer (some (a349.add 2)))) w363 fun (s365 : Sl) =>
                (S348 w363) ∧
                RunK .sl P (Instr.buildSlice T_sl_api_RMsg 2 #[(0, v350), (1, v364)]) w363 fun (s366 : Sl) w367 =>
                (S348 w367) ∧
                RunK .sl P (Builtin.append_ #[T_sl_api_RMsg, T_sl_api_RMsg] T_sl_api_RMsg #[s365.v, s366.v]) w367 fun (s368 : Sl) w369 =>
                (S348 w369) ∧
                nilCk x0 fun (a370 : Addr) =>
                StoreP P T_sl_api_RMsg (.pointer (some (a370.add 2))) s368.v w369 fun w371 =>
                (S348 w371) ∧
                R (.tuple #[]) w371) ∧
                (RunK .sl P (Instr.buildSlice T_sl_api_RMsg 2 #[(0, v350), (1, v364)]) w363 fun (s372 : Sl) w373 =>
                (S348 w373) ∧
                RunQ .sl P (Instr.loadAt T_sl_api_RMsg (.pointer (some (a349.add 2)))) w373 fun (s374 : Sl) =>
                (S348 w373) ∧
                RunK .sl P (Builtin.append_ #[T_sl_api_RMsg, T_sl_api_RMsg] T_sl_api_RMsg #[s374.v, s372.v]) w373 fun (s375 : Sl) w376 =>
                (S348 w376) ∧
                nilCk x0 fun (a377 : Addr) =>
                StoreP P T_sl_api_RMsg (.pointer (some (a377.add 2))) s375.v w376 fun w378 =>
                (S348 w378) ∧
                R (.tuple #[]) w378) ∧
                True) ∧
                True)
                (JoinP (T := Unit) (fun J379 =>
                RunQ (.int .i64) P (Instr.loadAt T_int (.pointer (some (Go.Addr.add a0 0)))) w346.drew fun (n382 : Int) =>
                ifB (n382 == 2)
                (R (.tuple #[]) w346.drew)
                (RunQ (.int .i64) P (Instr.loadAt T_int (.pointer (some (Go.Addr.add a338 2)))) w346.drew fun (n383 : Int) =>
                ifB (decide (n383 < 0))
                (R (.tuple #[]) w346.drew)
                (RunQ (.int .i64) P (Instr.loadAt T_int (.pointer (some (Go.Addr.add a338 2)))) w346.drew fun (n384 : Int) =>
                nilCk x0 fun (a385 : Addr) =>
                RunQ .sl P (Instr.loadAt T_sl_p_raft_Raft (.pointer (some (a385.add 0)))) w346.drew fun (s386 : Sl) =>
                ifB (decide (n384 ≥ (↑s386.len : Int)))
                (R (.tuple #[]) w346.drew)
                (J379 (some ()) w346.drew))))
                fun t380 w381 =>
                RunQ (.int .i64) P (Instr.loadAt T_int (.pointer (some (Go.Addr.add a338 2)))) w381 fun (n387 : Int) =>
                ∃ S388 : World → Prop, (S388 w381.drew) ∧
                nilCk x0 fun (a389 : Addr) =>
                HRun S388 .sl P (Instr.loadAt T_sl_p_raft_Raft (.pointer (some (a389.add 0)))) fun (s390 : Sl) =>
                HRun S388 .addr P (Instr.indexAt T_sl_p_raft_Raft s390.v (.int .i64 n387)) fun (a391 : Addr) =>
                HRun S388 .ptr P (Instr.loadAt T_p_raft_Raft (.pointer (some a391))) fun (p392 : Option Addr) =>
                HRun S388 .val P (Instr.loadAt T_api_RMsg (.pointer (some a338))) fun (v393 : Value) =>
                CallP P F_raft_Raft_Step [(.pointer p392), v393] w381.drew fun (v394 : Value) w395 =>
                TupP [] v394 fun (t396 : Unit) =>
                (S388 w395) ∧
                CallP P F_law12_group_take [(.pointer x0), (.int .i64 n387)] w395 fun (v397 : Value) w398 =>
                TupP [] v397 fun (t399 : Unit) =>
                R (.tuple #[]) w398)) ∧
                True))
             (ifB (n9 == 3)
              (nilCk x0 fun (a400 : Addr) =>
               RunQ .sl P (Instr.loadAt T_sl_api_RMsg (.pointer (some (a400.add 2)))) w7 fun (s401 : Sl) =>
                ifB ((↑s401.len : Int) == 0)
                (R (.tuple #[]) w7)
                (∃ S402 : World → Prop, (S402 w7.drew) ∧
                HRun S402 (.int .i64) P (Instr.loadAt T_int (.pointer (some (Go.Addr.add a0 1)))) fun (n403 : Int) =>
                nilCk x0 fun (a404 : Addr) =>
                HRun S402 .sl P (Instr.loadAt T_sl_api_RMsg (.pointer (some (a404.add 2)))) fun (s405 : Sl) =>
                (CallP P F_law12_round [(.int .i64 n403), (.int .i64 ((↑s405.len : Int)))] w7.drew fun (v406 : Value) w407 =>
                TyP (.int .i64) v406 fun (n408 : Int) =>
                (S402 w407) ∧
                (CallP P F_law12_group_out [(.pointer x0), (.int .i64 n408)] w407 fun (v409 : Value) w410 =>
                TyP .val v409 fun (v411 : Value) =>
                (S402 w410) ∧
                RunK .addr P (Instr.alloc T_api_RMsg true (.tuple #[])) w410 fun (a412 : Addr) w413 =>
                (S402 w413) ∧
                StoreP P T_api_RMsg (.pointer (some a412)) v411 w413 fun w414 =>
                (S402 w414) ∧
                RunQ (.int .i64) P (Instr.loadAt T_int (.pointer (some (Go.Addr.add a0 0)))) w414 fun (n415 : Int) =>
                ifB (n415 == 3)
                (∃ S416 : World → Prop, (S416 w414.drew) ∧
                nilCk x0 fun (a417 : Addr) =>
                HRun S416 .val P (Instr.loadAt T_api_RMsg (.pointer (some a412))) fun (v418 : Value) =>
                HRun S416 .val P (Instr.loadAt T_api_RMsg (.pointer (some a412))) fun (v419 : Value) =>
                (RunQ .sl P (Instr.loadAt T_sl_api_RMsg (.pointer (some (a417.add 2)))) w414.drew fun (s420 : Sl) =>
                (S416 w414.drew) ∧
                CallP P F_law12_ownMsg [v419] w414.drew fun (v421 : Value) w422 =>
                TyP .val v421 fun (v423 : Value) =>
                (S416 w422) ∧
                RunK .sl P (Instr.buildSlice T_sl_api_RMsg 2 #[(0, v418), (1, v423)]) w422 fun (s424 : Sl) w425 =>
                (S416 w425) ∧
                RunK .sl P (Builtin.append_ #[T_sl_api_RMsg, T_sl_api_RMsg] T_sl_api_RMsg #[s420.v, s424.v]) w425 fun (s426 : Sl) w427 =>
                (S416 w427) ∧
                nilCk x0 fun (a428 : Addr) =>
                StoreP P T_sl_api_RMsg (.pointer (some (a428.add 2))) s426.v w427 fun w429 =>
                (S416 w429) ∧
                R (.tuple #[]) w429) ∧
                (CallP P F_law12_ownMsg [v419] w414.drew fun (v430 : Value) w431 =>
                TyP .val v430 fun (v432 : Value) =>
                (S416 w431) ∧
                (RunQ .sl P (Instr.loadAt T_sl_api_RMsg (.pointer (some (a417.add 2)))) w431 fun (s433 : Sl) =>
                (S416 w431) ∧
                RunK .sl P (Instr.buildSlice T_sl_api_RMsg 2 #[(0, v418), (1, v432)]) w431 fun (s434 : Sl) w435 =>
                (S416 w435) ∧
                RunK .sl P (Builtin.append_ #[T_sl_api_RMsg, T_sl_api_RMsg] T_sl_api_RMsg #[s433.v, s434.v]) w435 fun (s436 : Sl) w437 =>
                (S416 w437) ∧
                nilCk x0 fun (a438 : Addr) =>
                StoreP P T_sl_api_RMsg (.pointer (some (a438.add 2))) s436.v w437 fun w439 =>
                (S416 w439) ∧
                R (.tuple #[]) w439) ∧
                (RunK .sl P (Instr.buildSlice T_sl_api_RMsg 2 #[(0, v418), (1, v432)]) w431 fun (s440 : Sl) w441 =>
                (S416 w441) ∧
                RunQ .sl P (Instr.loadAt T_sl_api_RMsg (.pointer (some (a417.add 2)))) w441 fun (s442 : Sl) =>
                (S416 w441) ∧
                RunK .sl P (Builtin.append_ #[T_sl_api_RMsg, T_sl_api_RMsg] T_sl_api_RMsg #[s442.v, s440.v]) w441 fun (s443 : Sl) w444 =>
                (S416 w444) ∧
                nilCk x0 fun (a445 : Addr) =>
                StoreP P T_sl_api_RMsg (.pointer (some (a445.add 2))) s443.v w444 fun w446 =>
                (S416 w446) ∧
                R (.tuple #[]) w446) ∧
                True) ∧
                True)
                (JoinP (T := Unit) (fun J447 =>
                RunQ (.int .i64) P (Instr.loadAt T_int (.pointer (some (Go.Addr.add a0 0)))) w414.drew fun (n450 : Int) =>
                ifB (n450 == 2)
                (R (.tuple #[]) w414.drew)
                (RunQ (.int .i64) P (Instr.loadAt T_int (.pointer (some (Go.Addr.add a412 2)))) w414.drew fun (n451 : Int) =>
                ifB (decide (n451 < 0))
                (R (.tuple #[]) w414.drew)
                (RunQ (.int .i64) P (Instr.loadAt T_int (.pointer (some (Go.Addr.add a412 2)))) w414.drew fun (n452 : Int) =>
                nilCk x0 fun (a453 : Addr) =>
                RunQ .sl P (Instr.loadAt T_sl_p_raft_Raft (.pointer (some (a453.add 0)))) w414.drew fun (s454 : Sl) =>
                ifB (decide (n452 ≥ (↑s454.len : Int)))
                (R (.tuple #[]) w414.drew)
                (J447 (some ()) w414.drew))))
                fun t448 w449 =>
                RunQ (.int .i64) P (Instr.loadAt T_int (.pointer (some (Go.Addr.add a412 2)))) w449 fun (n455 : Int) =>
                ∃ S456 : World → Prop, (S456 w449.drew) ∧
                nilCk x0 fun (a457 : Addr) =>
                HRun S456 .sl P (Instr.loadAt T_sl_p_raft_Raft (.pointer (some (a457.add 0)))) fun (s458 : Sl) =>
                HRun S456 .addr P (Instr.indexAt T_sl_p_raft_Raft s458.v (.int .i64 n455)) fun (a459 : Addr) =>
                HRun S456 .ptr P (Instr.loadAt T_p_raft_Raft (.pointer (some a459))) fun (p460 : Option Addr) =>
                HRun S456 .val P (Instr.loadAt T_api_RMsg (.pointer (some a412))) fun (v461 : Value) =>
                CallP P F_raft_Raft_Step [(.pointer p460), v461] w449.drew fun (v462 : Value) w463 =>
                TupP [] v462 fun (t464 : Unit) =>
                (S456 w463) ∧
                CallP P F_law12_group_take [(.pointer x0), (.int .i64 n455)] w463 fun (v465 : Value) w466 =>
                TupP [] v465 fun (t467 : Unit) =>
                R (.tuple #[]) w466)) ∧
                (RunK .addr P (Instr.alloc T_api_RMsg true (.tuple #[])) w407 fun (a468 : Addr) w469 =>
                (S402 w469) ∧
                CallP P F_law12_group_out [(.pointer x0), (.int .i64 n408)] w469 fun (v470 : Value) w471 =>
                TyP .val v470 fun (v472 : Value) =>
                (S402 w471) ∧
                StoreP P T_api_RMsg (.pointer (some a468)) v472 w471 fun w473 =>
                (S402 w473) ∧
                RunQ (.int .i64) P (Instr.loadAt T_int (.pointer (some (Go.Addr.add a0 0)))) w473 fun (n474 : Int) =>
                ifB (n474 == 3)
                (∃ S475 : World → Prop, (S475 w473.drew) ∧
                nilCk x0 fun (a476 : Addr) =>
                HRun S475 .val P (Instr.loadAt T_api_RMsg (.pointer (some a468))) fun (v477 : Value) =>
                HRun S475 .val P (Instr.loadAt T_api_RMsg (.pointer (some a468))) fun (v478 : Value) =>
                (RunQ .sl P (Instr.loadAt T_sl_api_RMsg (.pointer (some (a476.add 2)))) w473.drew fun (s479 : Sl) =>
                (S475 w473.drew) ∧
                CallP P F_law12_ownMsg [v478] w473.drew fun (v480 : Value) w481 =>
                TyP .val v480 fun (v482 : Value) =>
                (S475 w481) ∧
                RunK .sl P (Instr.buildSlice T_sl_api_RMsg 2 #[(0, v477), (1, v482)]) w481 fun (s483 : Sl) w484 =>
                (S475 w484) ∧
                RunK .sl P (Builtin.append_ #[T_sl_api_RMsg, T_sl_api_RMsg] T_sl_api_RMsg #[s479.v, s483.v]) w484 fun (s485 : Sl) w486 =>
                (S475 w486) ∧
                nilCk x0 fun (a487 : Addr) =>
                StoreP P T_sl_api_RMsg (.pointer (some (a487.add 2))) s485.v w486 fun w488 =>
                (S475 w488) ∧
                R (.tuple #[]) w488) ∧
                (CallP P F_law12_ownMsg [v478] w473.drew fun (v489 : Value) w490 =>
                TyP .val v489 fun (v491 : Value) =>
                (S475 w490) ∧
                (RunQ .sl P (Instr.loadAt T_sl_api_RMsg (.pointer (some (a476.add 2)))) w490 fun (s492 : Sl) =>
                (S475 w490) ∧
                RunK .sl P (Instr.buildSlice T_sl_api_RMsg 2 #[(0, v477), (1, v491)]) w490 fun (s493 : Sl) w494 =>
                (S475 w494) ∧
                RunK .sl P (Builtin.append_ #[T_sl_api_RMsg, T_sl_api_RMsg] T_sl_api_RMsg #[s492.v, s493.v]) w494 fun (s495 : Sl) w496 =>
                (S475 w496) ∧
                nilCk x0 fun (a497 : Addr) =>
                StoreP P T_sl_api_RMsg (.pointer (some (a497.add 2))) s495.v w496 fun w498 =>
                (S475 w498) ∧
                R (.tuple #[]) w498) ∧
                (RunK .sl P (Instr.buildSlice T_sl_api_RMsg 2 #[(0, v477), (1, v491)]) w490 fun (s499 : Sl) w500 =>
                (S475 w500) ∧
                RunQ .sl P (Instr.loadAt T_sl_api_RMsg (.pointer (some (a476.add 2)))) w500 fun (s501 : Sl) =>
                (S475 w500) ∧
                RunK .sl P (Builtin.append_ #[T_sl_api_RMsg, T_sl_api_RMsg] T_sl_api_RMsg #[s501.v, s499.v]) w500 fun (s502 : Sl) w503 =>
                (S475 w503) ∧
                nilCk x0 fun (a504 : Addr) =>
                StoreP P T_sl_api_RMsg (.pointer (some (a504.add 2))) s502.v w503 fun w505 =>
                (S475 w505) ∧
                R (.tuple #[]) w505) ∧
                True) ∧
                True)
                (JoinP (T := Unit) (fun J506 =>
                RunQ (.int .i64) P (Instr.loadAt T_int (.pointer (some (Go.Addr.add a0 0)))) w473.drew fun (n509 : Int) =>
                ifB (n509 == 2)
                (R (.tuple #[]) w473.drew)
                (RunQ (.int .i64) P (Instr.loadAt T_int (.pointer (some (Go.Addr.add a468 2)))) w473.drew fun (n510 : Int) =>
                ifB (decide (n510 < 0))
                (R (.tuple #[]) w473.drew)
                (RunQ (.int .i64) P (Instr.loadAt T_int (.pointer (some (Go.Addr.add a468 2)))) w473.drew fun (n511 : Int) =>
                nilCk x0 fun (a512 : Addr) =>
                RunQ .sl P (Instr.loadAt T_sl_p_raft_Raft (.pointer (some (a512.add 0)))) w473.drew fun (s513 : Sl) =>
                ifB (decide (n511 ≥ (↑s513.len : Int)))
                (R (.tuple #[]) w473.drew)
                (J506 (some ()) w473.drew))))
                fun t507 w508 =>
                RunQ (.int .i64) P (Instr.loadAt T_int (.pointer (some (Go.Addr.add a468 2)))) w508 fun (n514 : Int) =>
                ∃ S515 : World → Prop, (S515 w508.drew) ∧
                nilCk x0 fun (a516 : Addr) =>
                HRun S515 .sl P (Instr.loadAt T_sl_p_raft_Raft (.pointer (some (a516.add 0)))) fun (s517 : Sl) =>
                HRun S515 .addr P (Instr.indexAt T_sl_p_raft_Raft s517.v (.int .i64 n514)) fun (a518 : Addr) =>
                HRun S515 .ptr P (Instr.loadAt T_p_raft_Raft (.pointer (some a518))) fun (p519 : Option Addr) =>
                HRun S515 .val P (Instr.loadAt T_api_RMsg (.pointer (some a468))) fun (v520 : Value) =>
                CallP P F_raft_Raft_Step [(.pointer p519), v520] w508.drew fun (v521 : Value) w522 =>
                TupP [] v521 fun (t523 : Unit) =>
                (S515 w522) ∧
                CallP P F_law12_group_take [(.pointer x0), (.int .i64 n514)] w522 fun (v524 : Value) w525 =>
                TupP [] v524 fun (t526 : Unit) =>
                R (.tuple #[]) w525)) ∧
                True) ∧
                (RunK .addr P (Instr.alloc T_api_RMsg true (.tuple #[])) w7.drew fun (a527 : Addr) w528 =>
                (S402 w528) ∧
                CallP P F_law12_round [(.int .i64 n403), (.int .i64 ((↑s405.len : Int)))] w528 fun (v529 : Value) w530 =>
                TyP (.int .i64) v529 fun (n531 : Int) =>
                (S402 w530) ∧
                CallP P F_law12_group_out [(.pointer x0), (.int .i64 n531)] w530 fun (v532 : Value) w533 =>
                TyP .val v532 fun (v534 : Value) =>
                (S402 w533) ∧
                StoreP P T_api_RMsg (.pointer (some a527)) v534 w533 fun w535 =>
                (S402 w535) ∧
                RunQ (.int .i64) P (Instr.loadAt T_int (.pointer (some (Go.Addr.add a0 0)))) w535 fun (n536 : Int) =>
                ifB (n536 == 3)
                (∃ S537 : World → Prop, (S537 w535.drew) ∧
                nilCk x0 fun (a538 : Addr) =>
                HRun S537 .val P (Instr.loadAt T_api_RMsg (.pointer (some a527))) fun (v539 : Value) =>
                HRun S537 .val P (Instr.loadAt T_api_RMsg (.pointer (some a527))) fun (v540 : Value) =>
                (RunQ .sl P (Instr.loadAt T_sl_api_RMsg (.pointer (some (a538.add 2)))) w535.drew fun (s541 : Sl) =>
                (S537 w535.drew) ∧
                CallP P F_law12_ownMsg [v540] w535.drew fun (v542 : Value) w543 =>
                TyP .val v542 fun (v544 : Value) =>
                (S537 w543) ∧
                RunK .sl P (Instr.buildSlice T_sl_api_RMsg 2 #[(0, v539), (1, v544)]) w543 fun (s545 : Sl) w546 =>
                (S537 w546) ∧
                RunK .sl P (Builtin.append_ #[T_sl_api_RMsg, T_sl_api_RMsg] T_sl_api_RMsg #[s541.v, s545.v]) w546 fun (s547 : Sl) w548 =>
                (S537 w548) ∧
                nilCk x0 fun (a549 : Addr) =>
                StoreP P T_sl_api_RMsg (.pointer (some (a549.add 2))) s547.v w548 fun w550 =>
                (S537 w550) ∧
                R (.tuple #[]) w550) ∧
                (CallP P F_law12_ownMsg [v540] w535.drew fun (v551 : Value) w552 =>
                TyP .val v551 fun (v553 : Value) =>
                (S537 w552) ∧
                (RunQ .sl P (Instr.loadAt T_sl_api_RMsg (.pointer (some (a538.add 2)))) w552 fun (s554 : Sl) =>
                (S537 w552) ∧
                RunK .sl P (Instr.buildSlice T_sl_api_RMsg 2 #[(0, v539), (1, v553)]) w552 fun (s555 : Sl) w556 =>
                (S537 w556) ∧
                RunK .sl P (Builtin.append_ #[T_sl_api_RMsg, T_sl_api_RMsg] T_sl_api_RMsg #[s554.v, s555.v]) w556 fun (s557 : Sl) w558 =>
                (S537 w558) ∧
                nilCk x0 fun (a559 : Addr) =>
                StoreP P T_sl_api_RMsg (.pointer (some (a559.add 2))) s557.v w558 fun w560 =>
                (S537 w560) ∧
                R (.tuple #[]) w560) ∧
                (RunK .sl P (Instr.buildSlice T_sl_api_RMsg 2 #[(0, v539), (1, v553)]) w552 fun (s561 : Sl) w562 =>
                (S537 w562) ∧
                RunQ .sl P (Instr.loadAt T_sl_api_RMsg (.pointer (some (a538.add 2)))) w562 fun (s563 : Sl) =>
                (S537 w562) ∧
                RunK .sl P (Builtin.append_ #[T_sl_api_RMsg, T_sl_api_RMsg] T_sl_api_RMsg #[s563.v, s561.v]) w562 fun (s564 : Sl) w565 =>
                (S537 w565) ∧
                nilCk x0 fun (a566 : Addr) =>
                StoreP P T_sl_api_RMsg (.pointer (some (a566.add 2))) s564.v w565 fun w567 =>
                (S537 w567) ∧
                R (.tuple #[]) w567) ∧
                True) ∧
                True)
                (JoinP (T := Unit) (fun J568 =>
                RunQ (.int .i64) P (Instr.loadAt T_int (.pointer (some (Go.Addr.add a0 0)))) w535.drew fun (n571 : Int) =>
                ifB (n571 == 2)
                (R (.tuple #[]) w535.drew)
                (RunQ (.int .i64) P (Instr.loadAt T_int (.pointer (some (Go.Addr.add a527 2)))) w535.drew fun (n572 : Int) =>
                ifB (decide (n572 < 0))
                (R (.tuple #[]) w535.drew)
                (RunQ (.int .i64) P (Instr.loadAt T_int (.pointer (some (Go.Addr.add a527 2)))) w535.drew fun (n573 : Int) =>
                nilCk x0 fun (a574 : Addr) =>
                RunQ .sl P (Instr.loadAt T_sl_p_raft_Raft (.pointer (some (a574.add 0)))) w535.drew fun (s575 : Sl) =>
                ifB (decide (n573 ≥ (↑s575.len : Int)))
                (R (.tuple #[]) w535.drew)
                (J568 (some ()) w535.drew))))
                fun t569 w570 =>
                RunQ (.int .i64) P (Instr.loadAt T_int (.pointer (some (Go.Addr.add a527 2)))) w570 fun (n576 : Int) =>
                ∃ S577 : World → Prop, (S577 w570.drew) ∧
                nilCk x0 fun (a578 : Addr) =>
                HRun S577 .sl P (Instr.loadAt T_sl_p_raft_Raft (.pointer (some (a578.add 0)))) fun (s579 : Sl) =>
                HRun S577 .addr P (Instr.indexAt T_sl_p_raft_Raft s579.v (.int .i64 n576)) fun (a580 : Addr) =>
                HRun S577 .ptr P (Instr.loadAt T_p_raft_Raft (.pointer (some a580))) fun (p581 : Option Addr) =>
                HRun S577 .val P (Instr.loadAt T_api_RMsg (.pointer (some a527))) fun (v582 : Value) =>
                CallP P F_raft_Raft_Step [(.pointer p581), v582] w570.drew fun (v583 : Value) w584 =>
                TupP [] v583 fun (t585 : Unit) =>
                (S577 w584) ∧
                CallP P F_law12_group_take [(.pointer x0), (.int .i64 n576)] w584 fun (v586 : Value) w587 =>
                TupP [] v586 fun (t588 : Unit) =>
                R (.tuple #[]) w587)) ∧
                True))
              (ifB (n9 == 4)
               (∃ S589 : World → Prop, (S589 w7.drew) ∧
                nilCk x0 fun (a590 : Addr) =>
                HRun S589 .sl P (Instr.loadAt T_sl_p_raft_Raft (.pointer (some (a590.add 0)))) fun (s591 : Sl) =>
                HRun S589 .addr P (Instr.indexAt T_sl_p_raft_Raft s591.v (.int .i64 n8)) fun (a592 : Addr) =>
                HRun S589 .ptr P (Instr.loadAt T_p_raft_Raft (.pointer (some a592))) fun (p593 : Option Addr) =>
                HRun S589 .sl P (Instr.loadAt T_sl_uint8 (.pointer (some (Go.Addr.add a0 3)))) fun (s594 : Sl) =>
                CallP P F_raft_Raft_Propose [(.pointer p593), s594.v] w7.drew fun (v595 : Value) w596 =>
                TupP [(.int .i64), (.int .i64)] v595 fun (t597 : Int × Int × Unit) =>
                (S589 w596) ∧
                CallP P F_law12_group_take [(.pointer x0), (.int .i64 n8)] w596 fun (v598 : Value) w599 =>
                TupP [] v598 fun (t600 : Unit) =>
                R (.tuple #[]) w599)
               (ifB (n9 == 5)
                (∃ S601 : World → Prop, (S601 w7.drew) ∧
                nilCk x0 fun (a602 : Addr) =>
                HRun S601 .sl P (Instr.loadAt T_sl_p_raft_Raft (.pointer (some (a602.add 0)))) fun (s603 : Sl) =>
                nilCk x0 fun (a604 : Addr) =>
                HRun S601 .sl P (Instr.loadAt T_sl_api_Hard (.pointer (some (a604.add 1)))) fun (s605 : Sl) =>
                HRun S601 .addr P (Instr.indexAt T_sl_api_Hard s605.v (.int .i64 n8)) fun (a606 : Addr) =>
                HRun S601 .val P (Instr.loadAt T_api_Hard (.pointer (some a606))) fun (v607 : Value) =>
                CallP P F_ref12_Copy [v607] w7.drew fun (v608 : Value) w609 =>
                TyP .val v608 fun (v610 : Value) =>
                (S601 w609) ∧
                CallP P F_raft_New [(.int .i64 n8), (.int .i64 ((↑s603.len : Int))), v610] w609 fun (v611 : Value) w612 =>
                TupP [.ptr, (.int .i64)] v611 fun (t613 : Option Addr × Int × Unit) =>
                (S601 w612) ∧
                ifB (Option.isNone t613.fst)
                (nilCk x0 fun (a614 : Addr) =>
                StoreP P T_bool (.pointer (some (a614.add 6))) (.bool true) w612 fun w615 =>
                R (.tuple #[]) w615)
                (nilCk x0 fun (a616 : Addr) =>
                RunQ .sl P (Instr.loadAt T_sl_p_raft_Raft (.pointer (some (a616.add 0)))) w612 fun (s617 : Sl) =>
                RunQ .addr P (Instr.indexAt T_sl_p_raft_Raft s617.v (.int .i64 n8)) w612 fun (a618 : Addr) =>
                StoreP P T_p_raft_Raft (.pointer (some a618)) (.pointer t613.fst) w612 fun w619 =>
                nilCk x0 fun (a620 : Addr) =>
                RunQ .sl P (Instr.loadAt T_sl_int (.pointer (some (a620.add 5)))) w619 fun (s621 : Sl) =>
                RunQ .addr P (Instr.indexAt T_sl_int s621.v (.int .i64 n8)) w619 fun (a622 : Addr) =>
                StoreP P T_int (.pointer (some a622)) (.int .i64 0) w619 fun w623 =>
                CallP P F_law12_group_take [(.pointer x0), (.int .i64 n8)] w623 fun (v624 : Value) w625 =>
                TupP [] v624 fun (t626 : Unit) =>
                R (.tuple #[]) w625))
                (ifB (n9 == 6)
                (RunQ .sl P (Instr.loadAt T_sl_uint8 (.pointer (some (Go.Addr.add a0 3)))) w7 fun (s627 : Sl) =>
                ifB (decide ((↑s627.len : Int) < 100))
                (nilCk x0 fun (a628 : Addr) =>
                RunQ .sl P (Instr.loadAt T_sl_int (.pointer (some (a628.add 5)))) w7 fun (s629 : Sl) =>
                RunQ .addr P (Instr.indexAt T_sl_int s629.v (.int .i64 n8)) w7 fun (a630 : Addr) =>
                RunQ (.int .i64) P (Instr.loadAt T_int (.pointer (some a630))) w7 fun (n631 : Int) =>
                ifB (decide (n631 > 0))
                (∃ S632 : World → Prop, (S632 w7.drew) ∧
                nilCk x0 fun (a633 : Addr) =>
                HRun S632 .sl P (Instr.loadAt T_sl_p_raft_Raft (.pointer (some (a633.add 0)))) fun (s634 : Sl) =>
                HRun S632 .addr P (Instr.indexAt T_sl_p_raft_Raft s634.v (.int .i64 n8)) fun (a635 : Addr) =>
                HRun S632 .ptr P (Instr.loadAt T_p_raft_Raft (.pointer (some a635))) fun (p636 : Option Addr) =>
                nilCk x0 fun (a637 : Addr) =>
                HRun S632 .sl P (Instr.loadAt T_sl_int (.pointer (some (a637.add 5)))) fun (s638 : Sl) =>
                HRun S632 .addr P (Instr.indexAt T_sl_int s638.v (.int .i64 n8)) fun (a639 : Addr) =>
                HRun S632 (.int .i64) P (Instr.loadAt T_int (.pointer (some a639))) fun (n640 : Int) =>
                HRun S632 .sl P (Instr.loadAt T_sl_uint8 (.pointer (some (Go.Addr.add a0 3)))) fun (s641 : Sl) =>
                CallP P F_raft_Raft_Compact [(.pointer p636), (.int .i64 n640), s641.v] w7.drew fun (v642 : Value) w643 =>
                TyP (.int .i64) v642 fun (n644 : Int) =>
                (S632 w643) ∧
                CallP P F_law12_group_take [(.pointer x0), (.int .i64 n8)] w643 fun (v645 : Value) w646 =>
                TupP [] v645 fun (t647 : Unit) =>
                R (.tuple #[]) w646)
                (CallP P F_law12_group_take [(.pointer x0), (.int .i64 n8)] w7 fun (v648 : Value) w649 =>
                TupP [] v648 fun (t650 : Unit) =>
                R (.tuple #[]) w649))
                (CallP P F_law12_group_take [(.pointer x0), (.int .i64 n8)] w7 fun (v651 : Value) w652 =>
                TupP [] v651 fun (t653 : Unit) =>
                R (.tuple #[]) w652))
                (CallP P F_law12_group_take [(.pointer x0), (.int .i64 n8)] w7 fun (v654 : Value) w655 =>
                TupP [] v654 fun (t656 : Unit) =>
                R (.tuple #[]) w655)))))))
def an_law12_group_act : Ann := ⟨[(13, [])], [], [11]⟩
theorem e_law12_group_act (R : Value → World → Prop) (x0 : Option Addr) (x1 : Value) (w : World) : denF P an_law12_group_act Try.f17 [.pointer x0, x1] w R = S_law12_group_act R x0 x1 w := by kernel_rfl
theorem c_law12_group_act {R : Value → World → Prop} {x0 : Option Addr} {x1 : Value} {w : World} (h : S_law12_group_act R x0 x1 w) : CallP P F_law12_group_act [.pointer x0, x1] w R := calls_of_denF (an := an_law12_group_act) Try.func17 (by rw [e_law12_group_act]; exact h)


/-- (*penstock/penstocklaw12.group).rounds -/
def S_law12_group_rounds (R : Value → World → Prop) (x0 : Option Addr) (x1 : Int) (x2 : Int) (w : World) : Prop :=
 LoopP (T := Int × Unit) (some (0, ())) w fun next0 t1 w2 =>
 ifB (decide (t1.fst < x1))
  (nilCk x0 fun (a3 : Addr) =>
   RunQ .sl P (Instr.loadAt T_sl_api_RMsg (.pointer (some (a3.add 2)))) w2 fun (s4 : Sl) =>
    LoopP (T := Int × Unit) (some (((↑s4.len : Int)), ())) w2 fun next5 t6 w7 =>
     ifB (decide (t6.fst > 0))
      (CallP P F_law12_group_act [(.pointer x0), (.agg #[(.int .i64 1), (.int .i64 0), (.int .i64 0), (.slice none 0 0)])] w7 fun (v8 : Value) w9 =>
       TupP [] v8 fun (t10 : Unit) =>
        next5 (some ((IntKind.i64.wrap (t6.fst - 1)), ())) w9)
      (LoopP (T := Int × Unit) (some (0, ())) w7 fun next11 t12 w13 =>
       ifB (decide (t12.fst < x2))
        (CallP P F_law12_group_act [(.pointer x0), (.agg #[(.int .i64 0), (.int .i64 t12.fst), (.int .i64 (IntKind.i64.wrap (t12.fst + t1.fst))), (.slice none 0 0)])] w13 fun (v14 : Value) w15 =>
         TupP [] v14 fun (t16 : Unit) =>
          next11 (some ((IntKind.i64.wrap (t12.fst + 1)), ())) w15)
        (next0 (some ((IntKind.i64.wrap (t1.fst + 1)), ())) w13)))
  (R (.tuple #[]) w2)
def an_law12_group_rounds : Ann := ⟨[], [(4, [(7, (.int .i64))]), (8, [(8, (.int .i64))]), (1, [(6, (.int .i64))])], []⟩
theorem e_law12_group_rounds (R : Value → World → Prop) (x0 : Option Addr) (x1 : Int) (x2 : Int) (w : World) : denF P an_law12_group_rounds Try.f18 [.pointer x0, .int .i64 x1, .int .i64 x2] w R = S_law12_group_rounds R x0 x1 x2 w := by kernel_rfl
theorem c_law12_group_rounds {R : Value → World → Prop} {x0 : Option Addr} {x1 : Int} {x2 : Int} {w : World} (h : S_law12_group_rounds R x0 x1 x2 w) : CallP P F_law12_group_rounds [.pointer x0, .int .i64 x1, .int .i64 x2] w R := calls_of_denF (an := an_law12_group_rounds) Try.func18 (by rw [e_law12_group_rounds]; exact h)


/-- (*penstock/penstocklaw12.group).take -/
def S_law12_group_take (R : Value → World → Prop) (x0 : Option Addr) (x1 : Int) (w : World) : Prop :=
 nilCk x0 fun (a0 : Addr) =>
 RunQ .sl P (Instr.loadAt T_sl_p_raft_Raft (.pointer (some (a0.add 0)))) w fun (s1 : Sl) =>
  RunQ .addr P (Instr.indexAt T_sl_p_raft_Raft s1.v (.int .i64 x1)) w fun (a2 : Addr) =>
   RunQ .ptr P (Instr.loadAt T_p_raft_Raft (.pointer (some a2))) w fun (p3 : Option Addr) =>
    CallP P F_raft_Raft_Take [(.pointer p3)] w fun (v4 : Value) w5 =>
     TyP .val v4 fun (v6 : Value) =>
      RunK .addr P (Instr.alloc T_api_Ready true (.tuple #[])) w5 fun (a7 : Addr) w8 =>
       StoreP P T_api_Ready (.pointer (some a7)) v6 w8 fun w9 =>
        JoinP (T := Unit) (fun J10 =>
         RunQ .bool P (Instr.loadAt T_bool (.pointer (some (Go.Addr.add a7 0)))) w9 fun (b13 : Bool) =>
          ifB b13
           (∃ S14 : World → Prop, (S14 w9.drew) ∧
             nilCk x0 fun (a15 : Addr) =>
              HRun S14 .sl P (Instr.loadAt T_sl_api_Hard (.pointer (some (a15.add 1)))) fun (s16 : Sl) =>
               HRun S14 .val P (Instr.loadAt T_api_Hard (.pointer (some (Go.Addr.add a7 1)))) fun (v17 : Value) =>
                HRun S14 .addr P (Instr.indexAt T_sl_api_Hard s16.v (.int .i64 x1)) fun (a18 : Addr) =>
                StoreP P T_api_Hard (.pointer (some a18)) v17 w9.drew fun w19 =>
                (S14 w19) ∧
                J10 (some ()) w19)
           (J10 (some ()) w9))
         fun t11 w12 =>
         JoinP (T := Unit) (fun J20 =>
          RunQ .bool P (Instr.loadAt T_bool (.pointer (some (Go.Addr.add a7 8)))) w12 fun (b23 : Bool) =>
           ifB b23
            (∃ S24 : World → Prop, (S24 w12.drew) ∧
              nilCk x0 fun (a25 : Addr) =>
               HRun S24 .sl P (Instr.loadAt T_sl_int (.pointer (some (a25.add 5)))) fun (s26 : Sl) =>
                nilCk x0 fun (a27 : Addr) =>
                HRun S24 .sl P (Instr.loadAt T_sl_api_Hard (.pointer (some (a27.add 1)))) fun (s28 : Sl) =>
                HRun S24 .addr P (Instr.indexAt T_sl_api_Hard s28.v (.int .i64 x1)) fun (a29 : Addr) =>
                HRun S24 (.int .i64) P (Instr.loadAt T_int (.pointer (some (Go.Addr.add a29 2)))) fun (n30 : Int) =>
                HRun S24 .addr P (Instr.indexAt T_sl_int s26.v (.int .i64 x1)) fun (a31 : Addr) =>
                StoreP P T_int (.pointer (some a31)) (.int .i64 n30) w12.drew fun w32 =>
                (S24 w32) ∧
                J20 (some ()) w32)
            (J20 (some ()) w12))
          fun t21 w22 =>
          RunQ .sl P (Instr.loadAt T_sl_api_Commit (.pointer (some (Go.Addr.add a7 10)))) w22 fun (s33 : Sl) =>
           LoopP (T := Int × Unit) (some (0, ())) w22 fun next34 t35 w36 =>
            ifB (decide (t35.fst < (↑s33.len : Int)))
             (RunQ .addr P (Instr.indexAt T_sl_api_Commit s33.v (.int .i64 t35.fst)) w36 fun (a37 : Addr) =>
              RunQ .val P (Instr.loadAt T_api_Commit (.pointer (some a37))) w36 fun (v38 : Value) =>
               RunK .addr P (Instr.alloc T_api_Commit true (.tuple #[])) w36 fun (a39 : Addr) w40 =>
                StoreP P T_api_Commit (.pointer (some a39)) v38 w40 fun w41 =>
                JoinP (T := Unit) (fun J42 =>
                RunQ (.int .i64) P (Instr.loadAt T_int (.pointer (some (Go.Addr.add a39 0)))) w41.drew fun (n45 : Int) =>
                nilCk x0 fun (a46 : Addr) =>
                RunQ .sl P (Instr.loadAt T_sl_int (.pointer (some (a46.add 5)))) w41.drew fun (s47 : Sl) =>
                RunQ .addr P (Instr.indexAt T_sl_int s47.v (.int .i64 x1)) w41.drew fun (a48 : Addr) =>
                RunQ (.int .i64) P (Instr.loadAt T_int (.pointer (some a48))) w41.drew fun (n49 : Int) =>
                ifB (n45 != IntKind.i64.wrap (n49 + 1))
                (nilCk x0 fun (a50 : Addr) =>
                StoreP P T_bool (.pointer (some (a50.add 6))) (.bool true) w41.drew fun w51 =>
                J42 (some ()) w51)
                (J42 (some ()) w41.drew))
                fun t43 w44 =>
                ∃ S52 : World → Prop, (S52 w44.drew) ∧
                nilCk x0 fun (a53 : Addr) =>
                HRun S52 .sl P (Instr.loadAt T_sl_int (.pointer (some (a53.add 5)))) fun (s54 : Sl) =>
                HRun S52 (.int .i64) P (Instr.loadAt T_int (.pointer (some (Go.Addr.add a39 0)))) fun (n55 : Int) =>
                HRun S52 .addr P (Instr.indexAt T_sl_int s54.v (.int .i64 x1)) fun (a56 : Addr) =>
                StoreP P T_int (.pointer (some a56)) (.int .i64 n55) w44.drew fun w57 =>
                (S52 w57) ∧
                RunQ .val P (Instr.loadAt T_api_Commit (.pointer (some a39))) w57 fun (v58 : Value) =>
                CallP P F_law12_group_tell [(.pointer x0), v58] w57 fun (v59 : Value) w60 =>
                TupP [] v59 fun (t61 : Unit) =>
                next34 (some ((IntKind.i64.wrap (t35.fst + 1)), ())) w60)
             (JoinP (T := Unit) (fun J62 =>
              nilCk x0 fun (a65 : Addr) =>
               RunQ .sl P (Instr.loadAt T_sl_api_RMsg (.pointer (some (a65.add 2)))) w36 fun (s66 : Sl) =>
                ifB (decide ((↑s66.len : Int) < 400))
                (∃ S67 : World → Prop, (S67 w36.drew) ∧
                nilCk x0 fun (a68 : Addr) =>
                HRun S67 .sl P (Instr.loadAt T_sl_api_RMsg (.pointer (some (Go.Addr.add a7 7)))) fun (s69 : Sl) =>
                RunQ .sl P (Instr.loadAt T_sl_api_RMsg (.pointer (some (a68.add 2)))) w36.drew fun (s70 : Sl) =>
                (S67 w36.drew) ∧
                RunK .sl P (Builtin.append_ #[T_sl_api_RMsg, T_sl_api_RMsg] T_sl_api_RMsg #[s70.v, s69.v]) w36.drew fun (s71 : Sl) w72 =>
                (S67 w72) ∧
                nilCk x0 fun (a73 : Addr) =>
                StoreP P T_sl_api_RMsg (.pointer (some (a73.add 2))) s71.v w72 fun w74 =>
                (S67 w74) ∧
                J62 (some ()) w74)
                (J62 (some ()) w36))
              fun t63 w64 =>
              nilCk x0 fun (a75 : Addr) =>
               RunQ .sl P (Instr.loadAt T_sl_p_raft_Raft (.pointer (some (a75.add 0)))) w64 fun (s76 : Sl) =>
                RunQ .addr P (Instr.indexAt T_sl_p_raft_Raft s76.v (.int .i64 x1)) w64 fun (a77 : Addr) =>
                RunQ .ptr P (Instr.loadAt T_p_raft_Raft (.pointer (some a77))) w64 fun (p78 : Option Addr) =>
                CallP P F_raft_Raft_State [(.pointer p78)] w64 fun (v79 : Value) w80 =>
                TupP [(.int .i64), (.int .i64), (.int .i64), (.int .i64), (.int .i64)] v79 fun (t81 : Int × Int × Int × Int × Int × Unit) =>
                ifB (t81.fst == 3)
                (ifB (decide (t81.snd.fst ≥ 0))
                (ifB (decide (t81.snd.fst < 4000))
                (LoopP (T := Unit) (some ()) w80 fun next82 t83 w84 =>
                nilCk x0 fun (a85 : Addr) =>
                RunQ .sl P (Instr.loadAt T_sl_int (.pointer (some (a85.add 4)))) w84 fun (s86 : Sl) =>
                ifB (decide ((↑s86.len : Int) ≤ t81.snd.fst))
                (nilCk x0 fun (a87 : Addr) =>
                RunQ .sl P (Instr.loadAt T_sl_int (.pointer (some (a87.add 4)))) w84 fun (s88 : Sl) =>
                RunK .sl P (Instr.buildSlice T_sl_int 1 #[(0, (.int .i64 (-1)))]) w84 fun (s89 : Sl) w90 =>
                RunK .sl P (Builtin.append_ #[T_sl_int, T_sl_int] T_sl_int #[s88.v, s89.v]) w90 fun (s91 : Sl) w92 =>
                nilCk x0 fun (a93 : Addr) =>
                StoreP P T_sl_int (.pointer (some (a93.add 4))) s91.v w92 fun w94 =>
                next82 (some ()) w94)
                (JoinP (T := Unit) (fun J95 =>
                nilCk x0 fun (a98 : Addr) =>
                RunQ .bool P (Instr.loadAt T_bool (.pointer (some (a98.add 6)))) w84 fun (b99 : Bool) =>
                ifB b99
                (nilCk x0 fun (a100 : Addr) =>
                StoreP P T_bool (.pointer (some (a100.add 6))) (.bool true) w84 fun w101 =>
                J95 (some ()) w101)
                (nilCk x0 fun (a102 : Addr) =>
                RunQ .sl P (Instr.loadAt T_sl_int (.pointer (some (a102.add 4)))) w84 fun (s103 : Sl) =>
                RunQ .addr P (Instr.indexAt T_sl_int s103.v (.int .i64 t81.snd.fst)) w84 fun (a104 : Addr) =>
                RunQ (.int .i64) P (Instr.loadAt T_int (.pointer (some a104))) w84 fun (n105 : Int) =>
                ifB (decide (n105 ≥ 0))
                (nilCk x0 fun (a106 : Addr) =>
                RunQ .sl P (Instr.loadAt T_sl_int (.pointer (some (a106.add 4)))) w84 fun (s107 : Sl) =>
                RunQ .addr P (Instr.indexAt T_sl_int s107.v (.int .i64 t81.snd.fst)) w84 fun (a108 : Addr) =>
                RunQ (.int .i64) P (Instr.loadAt T_int (.pointer (some a108))) w84 fun (n109 : Int) =>
                nilCk x0 fun (a110 : Addr) =>
                StoreP P T_bool (.pointer (some (a110.add 6))) (.bool (n109 != x1)) w84 fun w111 =>
                J95 (some ()) w111)
                (nilCk x0 fun (a112 : Addr) =>
                StoreP P T_bool (.pointer (some (a112.add 6))) (.bool false) w84 fun w113 =>
                J95 (some ()) w113)))
                fun t96 w97 =>
                nilCk x0 fun (a114 : Addr) =>
                RunQ .sl P (Instr.loadAt T_sl_int (.pointer (some (a114.add 4)))) w97 fun (s115 : Sl) =>
                RunQ .addr P (Instr.indexAt T_sl_int s115.v (.int .i64 t81.snd.fst)) w97 fun (a116 : Addr) =>
                StoreP P T_int (.pointer (some a116)) (.int .i64 x1) w97 fun w117 =>
                R (.tuple #[]) w117))
                (R (.tuple #[]) w80))
                (R (.tuple #[]) w80))
                (R (.tuple #[]) w80))
def an_law12_group_take : Ann := ⟨[(10, []), (20, []), (15, []), (5, []), (3, [])], [(6, [(49, (.int .i64))]), (17, [])], [14]⟩
theorem e_law12_group_take (R : Value → World → Prop) (x0 : Option Addr) (x1 : Int) (w : World) : denF P an_law12_group_take Try.f19 [.pointer x0, .int .i64 x1] w R = S_law12_group_take R x0 x1 w := by kernel_rfl
theorem c_law12_group_take {R : Value → World → Prop} {x0 : Option Addr} {x1 : Int} {w : World} (h : S_law12_group_take R x0 x1 w) : CallP P F_law12_group_take [.pointer x0, .int .i64 x1] w R := calls_of_denF (an := an_law12_group_take) Try.func19 (by rw [e_law12_group_take]; exact h)


/-- penstock/penstocklaw12.round -/
def S_law12_round (R : Value → World → Prop) (x0 : Int) (x1 : Int) (w : World) : Prop :=
 RunK (.int .i64) P (do (eqGuard .rem T_int (.tmp 0) (.tmp 0) (.int .i64 x0) (.int .i64 x1)); (binOp .rem T_int (.int .i64 x0) (.int .i64 x1))) w fun (n0 : Int) w1 =>
 RunK (.int .i64) P (do (eqGuard .rem T_int (.tmp 0) (.tmp 0) (.int .i64 (IntKind.i64.wrap (n0 + x1))) (.int .i64 x1)); (binOp .rem T_int (.int .i64 (IntKind.i64.wrap (n0 + x1))) (.int .i64 x1))) w1 fun (n2 : Int) w3 =>
  R (.int .i64 n2) w3
def an_law12_round : Ann := ⟨[], [], []⟩
theorem e_law12_round (R : Value → World → Prop) (x0 : Int) (x1 : Int) (w : World) : denF P an_law12_round Try.f30 [.int .i64 x0, .int .i64 x1] w R = S_law12_round R x0 x1 w := by kernel_rfl
theorem c_law12_round {R : Value → World → Prop} {x0 : Int} {x1 : Int} {w : World} (h : S_law12_round R x0 x1 w) : CallP P F_law12_round [.int .i64 x0, .int .i64 x1] w R := calls_of_denF (an := an_law12_round) Try.func30 (by rw [e_law12_round]; exact h)


/-- (*penstock/penstocklaw12.group).out -/
def S_law12_group_out (R : Value → World → Prop) (x0 : Option Addr) (x1 : Int) (w : World) : Prop :=
 RunK .addr P (Instr.alloc T_api_RMsg true (.tuple #[])) w fun (a0 : Addr) w1 =>
 nilCk x0 fun (a2 : Addr) =>
  RunQ .sl P (Instr.loadAt T_sl_api_RMsg (.pointer (some (a2.add 2)))) w1 fun (s3 : Sl) =>
   RunQ .addr P (Instr.indexAt T_sl_api_RMsg s3.v (.int .i64 x1)) w1 fun (a4 : Addr) =>
    RunQ .val P (Instr.loadAt T_api_RMsg (.pointer (some a4))) w1 fun (v5 : Value) =>
     RunK .addr P (Instr.alloc T_api_RMsg true (.tuple #[])) w1 fun (a6 : Addr) w7 =>
      StoreP P T_api_RMsg (.pointer (some a6)) v5 w7 fun w8 =>
       nilCk x0 fun (a9 : Addr) =>
        RunQ .sl P (Instr.loadAt T_sl_api_RMsg (.pointer (some (a9.add 2)))) w8 fun (s10 : Sl) =>
         RunQ .sl P (Instr.sliceAt T_sl_api_RMsg s10.v none (some (.int .i64 x1)) none) w8 fun (s11 : Sl) =>
          RunK .sl P (Builtin.append_ #[T_sl_api_RMsg, T_sl_api_RMsg] T_sl_api_RMsg #[(.slice none 0 0), s11.v]) w8 fun (s12 : Sl) w13 =>
           nilCk x0 fun (a14 : Addr) =>
            RunQ .sl P (Instr.loadAt T_sl_api_RMsg (.pointer (some (a14.add 2)))) w13 fun (s15 : Sl) =>
             RunQ .sl P (Instr.sliceAt T_sl_api_RMsg s15.v (some (.int .i64 (IntKind.i64.wrap (x1 + 1)))) none none) w13 fun (s16 : Sl) =>
              RunK .sl P (Builtin.append_ #[T_sl_api_RMsg, T_sl_api_RMsg] T_sl_api_RMsg #[s12.v, s16.v]) w13 fun (s17 : Sl) w18 =>
               nilCk x0 fun (a19 : Addr) =>
                StoreP P T_sl_api_RMsg (.pointer (some (a19.add 2))) s17.v w18 fun w20 =>
                RunQ .val P (Instr.loadAt T_api_RMsg (.pointer (some a6))) w20 fun (v21 : Value) =>
                StoreP P T_api_RMsg (.pointer (some a0)) v21 w20 fun w22 =>
                LoadK .val P T_api_RMsg (.pointer (some a0)) w22 fun (v23 : Value) =>
                R v23 w22
def an_law12_group_out : Ann := ⟨[], [], []⟩
theorem e_law12_group_out (R : Value → World → Prop) (x0 : Option Addr) (x1 : Int) (w : World) : denF P an_law12_group_out Try.f31 [.pointer x0, .int .i64 x1] w R = S_law12_group_out R x0 x1 w := by kernel_rfl
theorem c_law12_group_out {R : Value → World → Prop} {x0 : Option Addr} {x1 : Int} {w : World} (h : S_law12_group_out R x0 x1 w) : CallP P F_law12_group_out [.pointer x0, .int .i64 x1] w R := calls_of_denF (an := an_law12_group_out) Try.func31 (by rw [e_law12_group_out]; exact h)


/-- penstock/penstocklaw12.ownMsg -/
def S_law12_ownMsg (R : Value → World → Prop) (x0 : Value) (w : World) : Prop :=
 RunK .addr P (Instr.box T_api_RMsg x0) w fun (a0 : Addr) w1 =>
 RunK .addr P (Instr.alloc T_api_RMsg true (.tuple #[])) w1 fun (a2 : Addr) w3 =>
  RunQ .sl P (Instr.loadAt T_sl_api_Entry (.pointer (some (Go.Addr.add a0 8)))) w3 fun (s4 : Sl) =>
   RunQ .sl P (Instr.loadAt T_sl_uint8 (.pointer (some (Go.Addr.add a0 9)))) w3 fun (s5 : Sl) =>
    CallP P F_ref12_Copy [(.agg #[(.int .i64 0), (.int .i64 0), (.int .i64 0), (.int .i64 0), s5.v, s4.v])] w3 fun (v6 : Value) w7 =>
     TyP .val v6 fun (v8 : Value) =>
      RunK .addr P (Instr.alloc T_api_Hard true (.tuple #[])) w7 fun (a9 : Addr) w10 =>
       StoreP P T_api_Hard (.pointer (some a9)) v8 w10 fun w11 =>
        RunQ .sl P (Instr.loadAt T_sl_api_Entry (.pointer (some (Go.Addr.add a9 5)))) w11 fun (s12 : Sl) =>
         StoreP P T_sl_api_Entry (.pointer (some (Go.Addr.add a0 8))) s12.v w11 fun w13 =>
          RunQ .sl P (Instr.loadAt T_sl_uint8 (.pointer (some (Go.Addr.add a9 4)))) w13 fun (s14 : Sl) =>
           StoreP P T_sl_uint8 (.pointer (some (Go.Addr.add a0 9))) s14.v w13 fun w15 =>
            RunQ .val P (Instr.loadAt T_api_RMsg (.pointer (some a0))) w15 fun (v16 : Value) =>
             StoreP P T_api_RMsg (.pointer (some a2)) v16 w15 fun w17 =>
              LoadK .val P T_api_RMsg (.pointer (some a2)) w17 fun (v18 : Value) =>
               R v18 w17
def an_law12_ownMsg : Ann := ⟨[], [], []⟩
theorem e_law12_ownMsg (R : Value → World → Prop) (x0 : Value) (w : World) : denF P an_law12_ownMsg Try.f32 [x0] w R = S_law12_ownMsg R x0 w := by kernel_rfl
theorem c_law12_ownMsg {R : Value → World → Prop} {x0 : Value} {w : World} (h : S_law12_ownMsg R x0 w) : CallP P F_law12_ownMsg [x0] w R := calls_of_denF (an := an_law12_ownMsg) Try.func32 (by rw [e_law12_ownMsg]; exact h)


/-- (*penstock/penstocklaw12.group).tell -/
def S_law12_group_tell (R : Value → World → Prop) (x0 : Option Addr) (x1 : Value) (w : World) : Prop :=
 RunK .addr P (Instr.box T_api_Commit x1) w fun (a0 : Addr) w1 =>
 LoopP (T := Unit) (some ()) w1 fun next2 t3 w4 =>
  nilCk x0 fun (a5 : Addr) =>
   RunQ .sl P (Instr.loadAt T_sl_api_Commit (.pointer (some (a5.add 3)))) w4.drew fun (s6 : Sl) =>
    RunQ (.int .i64) P (Instr.loadAt T_int (.pointer (some (Go.Addr.add a0 0)))) w4.drew fun (n7 : Int) =>
     ifB (decide ((↑s6.len : Int) < n7))
      (nilCk x0 fun (a8 : Addr) =>
       RunQ .sl P (Instr.loadAt T_sl_api_Commit (.pointer (some (a8.add 3)))) w4.drew fun (s9 : Sl) =>
        RunK .sl P (Instr.buildSlice T_sl_api_Commit 1 #[(0, (.agg #[(.int .i64 0), (.slice none 0 0)]))]) w4.drew fun (s10 : Sl) w11 =>
         RunK .sl P (Builtin.append_ #[T_sl_api_Commit, T_sl_api_Commit] T_sl_api_Commit #[s9.v, s10.v]) w11 fun (s12 : Sl) w13 =>
          nilCk x0 fun (a14 : Addr) =>
           StoreP P T_sl_api_Commit (.pointer (some (a14.add 3))) s12.v w13 fun w15 =>
            next2 (some ()) w15)
      (JoinP (T := Unit) (fun J16 =>
       ∃ S19 : World → Prop, (S19 w4.drew.drew) ∧
         HRun S19 (.int .i64) P (Instr.loadAt T_int (.pointer (some (Go.Addr.add a0 0)))) fun (n20 : Int) =>
          ifB (decide (n20 < 1))
           (nilCk x0 fun (a21 : Addr) =>
            StoreP P T_bool (.pointer (some (a21.add 6))) (.bool true) w4.drew.drew fun w22 =>
             R (.tuple #[]) w22)
           (nilCk x0 fun (a23 : Addr) =>
            HRun S19 .sl P (Instr.loadAt T_sl_api_Commit (.pointer (some (a23.add 3)))) fun (s24 : Sl) =>
             HRun S19 (.int .i64) P (Instr.loadAt T_int (.pointer (some (Go.Addr.add a0 0)))) fun (n25 : Int) =>
              HRun S19 .addr P (Instr.indexAt T_sl_api_Commit s24.v (.int .i64 (IntKind.i64.wrap (n25 - 1)))) fun (a26 : Addr) =>
               HRun S19 (.int .i64) P (Instr.loadAt T_int (.pointer (some (Go.Addr.add a26 0)))) fun (n27 : Int) =>
                ifB (n27 != 0)
                (nilCk x0 fun (a28 : Addr) =>
                HRun S19 .sl P (Instr.loadAt T_sl_api_Commit (.pointer (some (a28.add 3)))) fun (s29 : Sl) =>
                HRun S19 (.int .i64) P (Instr.loadAt T_int (.pointer (some (Go.Addr.add a0 0)))) fun (n30 : Int) =>
                HRun S19 .addr P (Instr.indexAt T_sl_api_Commit s29.v (.int .i64 (IntKind.i64.wrap (n30 - 1)))) fun (a31 : Addr) =>
                HRun S19 .sl P (Instr.loadAt T_sl_uint8 (.pointer (some (Go.Addr.add a31 1)))) fun (s32 : Sl) =>
                HRun S19 .sl P (Instr.loadAt T_sl_uint8 (.pointer (some (Go.Addr.add a0 1)))) fun (s33 : Sl) =>
                CallP P F_ref03_Same [s32.v, s33.v] w4.drew.drew fun (v34 : Value) w35 =>
                TyP .bool v34 fun (b36 : Bool) =>
                (S19 w35) ∧
                ifB (!b36)
                (nilCk x0 fun (a37 : Addr) =>
                StoreP P T_bool (.pointer (some (a37.add 6))) (.bool true) w35 fun w38 =>
                R (.tuple #[]) w38)
                (J16 (some ()) w35))
                (J16 (some ()) w4.drew.drew)))
       fun t17 w18 =>
       ∃ S39 : World → Prop, (S39 w18.drew) ∧
         nilCk x0 fun (a40 : Addr) =>
          HRun S39 .sl P (Instr.loadAt T_sl_api_Commit (.pointer (some (a40.add 3)))) fun (s41 : Sl) =>
           HRun S39 (.int .i64) P (Instr.loadAt T_int (.pointer (some (Go.Addr.add a0 0)))) fun (n42 : Int) =>
            HRun S39 .val P (Instr.loadAt T_api_Commit (.pointer (some a0))) fun (v43 : Value) =>
             HRun S39 .addr P (Instr.indexAt T_sl_api_Commit s41.v (.int .i64 (IntKind.i64.wrap (n42 - 1)))) fun (a44 : Addr) =>
              StoreP P T_api_Commit (.pointer (some a44)) v43 w18.drew fun w45 =>
               (S39 w45) ∧
                R (.tuple #[]) w45)
def an_law12_group_tell : Ann := ⟨[(5, [])], [(1, [])], []⟩
theorem e_law12_group_tell (R : Value → World → Prop) (x0 : Option Addr) (x1 : Value) (w : World) : denF P an_law12_group_tell Try.f33 [.pointer x0, x1] w R = S_law12_group_tell R x0 x1 w := by kernel_rfl
theorem c_law12_group_tell {R : Value → World → Prop} {x0 : Option Addr} {x1 : Value} {w : World} (h : S_law12_group_tell R x0 x1 w) : CallP P F_law12_group_tell [.pointer x0, x1] w R := calls_of_denF (an := an_law12_group_tell) Try.func33 (by rw [e_law12_group_tell]; exact h)

end Go.Proofs.Ytfbffgcoopelfaa
