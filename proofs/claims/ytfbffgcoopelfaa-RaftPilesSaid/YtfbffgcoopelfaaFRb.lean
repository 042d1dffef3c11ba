/- The functions of the program as predicates over worlds, written by a program of mine (PkPrint); each is held against the code by the kernel. -/
import Derived.Test.YtfbffgcoopelfaaN
namespace Go.Proofs.Ytfbffgcoopelfaa
open Go Go.Pk
/-- penstock/penstocklaw12.RaftKeeps -/
def S_law12_RaftKeeps (R : Value → World → Prop) (x0 : Int) (x1 : Int) (x2 : Value) (w : World) : Prop :=
 RunK .addr P (Instr.box T_api_Hard x2) w fun (a0 : Addr) w1 =>
 RunQ .val P (Instr.loadAt T_api_Hard (.pointer (some a0))) w1 fun (v2 : Value) =>
  CallP P F_ref12_Copy [v2] w1 fun (v3 : Value) w4 =>
   TyP .val v3 fun (v5 : Value) =>
    CallP P F_raft_New [(.int .i64 x0), (.int .i64 x1), v5] w4 fun (v6 : Value) w7 =>
     TupP [.ptr, (.int .i64)] v6 fun (t8 : Option Addr × Int × Unit) =>
      JoinP (T := Bool × Unit) (fun J9 =>
       ifB (decide (x1 < 1))
        (J9 (some (true, ())) w7)
        (ifB (decide (x1 > 5))
         (J9 (some (true, ())) w7)
         (ifB (decide (x0 < 0))
          (J9 (some (true, ())) w7)
          (ifB (decide (x0 ≥ x1))
           (J9 (some (true, ())) w7)
           (RunQ (.int .i64) P (Instr.loadAt T_int (.pointer (some (Go.Addr.add a0 0)))) w7 fun (n12 : Int) =>
            ifB (decide (n12 < 0))
             (J9 (some (true, ())) w7)
             (RunQ (.int .i64) P (Instr.loadAt T_int (.pointer (some (Go.Addr.add a0 2)))) w7 fun (n13 : Int) =>
              ifB (decide (n13 < 0))
               (J9 (some (true, ())) w7)
               (RunQ (.int .i64) P (Instr.loadAt T_int (.pointer (some (Go.Addr.add a0 1)))) w7 fun (n14 : Int) =>
                ifB (decide (n14 < -1))
                (J9 (some (true, ())) w7)
                (RunQ (.int .i64) P (Instr.loadAt T_int (.pointer (some (Go.Addr.add a0 1)))) w7 fun (n15 : Int) =>
                J9 (some ((decide (n15 ≥ x1)), ())) w7))))))))
       fun t10 w11 =>
       JoinP (T := Unit) (fun J16 =>
        CallP P F_law12_awake [] w11 fun (v19 : Value) w20 =>
         TyP .bool v19 fun (b21 : Bool) =>
          ifB (!b21)
           (R (.bool false) w20)
           (ifB (!(t8.snd.fst == 1) == t10.fst)
            (R (.bool false) w20)
            (ifB (!Option.isNone t8.fst == t10.fst)
             (R (.bool false) w20)
             (J16 (some ()) w20))))
        fun t17 w18 =>
        ifB (Option.isNone t8.fst)
         (R (.bool true) w18)
         (CallP P F_raft_Raft_Take [(.pointer t8.fst)] w18 fun (v22 : Value) w23 =>
          TyP .val v22 fun (v24 : Value) =>
           RunK .addr P (Instr.alloc T_api_Ready true (.tuple #[])) w23 fun (a25 : Addr) w26 =>
            StoreP P T_api_Ready (.pointer (some a25)) v24 w26 fun w27 =>
             CallP P F_raft_Raft_State [(.pointer t8.fst)] w27 fun (v28 : Value) w29 =>
              TupP [(.int .i64), (.int .i64), (.int .i64), (.int .i64), (.int .i64)] v28 fun (t30 : Int × Int × Int × Int × Int × Unit) =>
               JoinP (T := Unit) (fun J31 =>
                ifB (t30.fst != 0)
                (R (.bool false) w29)
                (RunQ (.int .i64) P (Instr.loadAt T_int (.pointer (some (Go.Addr.add a0 0)))) w29 fun (n34 : Int) =>
                ifB (t30.snd.fst != n34)
                (R (.bool false) w29)
                (ifB (t30.snd.snd.fst != -1)
                (R (.bool false) w29)
                (RunQ (.int .i64) P (Instr.loadAt T_int (.pointer (some (Go.Addr.add a0 2)))) w29 fun (n35 : Int) =>
                ifB (t30.snd.snd.snd.fst != n35)
                (R (.bool false) w29)
                (RunQ (.int .i64) P (Instr.loadAt T_int (.pointer (some (Go.Addr.add a0 2)))) w29 fun (n36 : Int) =>
                RunQ .sl P (Instr.loadAt T_sl_api_Entry (.pointer (some (Go.Addr.add a0 5)))) w29 fun (s37 : Sl) =>
                ifB (t30.snd.snd.snd.snd.fst != IntKind.i64.wrap (n36 + (↑s37.len : Int)))
                (R (.bool false) w29)
                (J31 (some ()) w29))))))
                fun t32 w33 =>
                RunQ .bool P (Instr.loadAt T_bool (.pointer (some (Go.Addr.add a25 0)))) w33 fun (b38 : Bool) =>
                ifB (!b38)
                (RunQ .bool P (Instr.loadAt T_bool (.pointer (some (Go.Addr.add a25 8)))) w33 fun (b39 : Bool) =>
                RunQ (.int .i64) P (Instr.loadAt T_int (.pointer (some (Go.Addr.add a0 2)))) w33 fun (n40 : Int) =>
                ifB (b39 == decide (n40 > 0))
                (RunQ .sl P (Instr.loadAt T_sl_api_Commit (.pointer (some (Go.Addr.add a25 10)))) w33 fun (s41 : Sl) =>
                RunQ .sl P (Instr.loadAt T_sl_api_RMsg (.pointer (some (Go.Addr.add a25 7)))) w33 fun (s42 : Sl) =>
                ifB (IntKind.i64.wrap ((↑s41.len : Int) + (↑s42.len : Int)) == 0)
                (RunQ .bool P (Instr.loadAt T_bool (.pointer (some (Go.Addr.add a25 8)))) w33 fun (b43 : Bool) =>
                ifB (!b43)
                (R (.bool true) w33)
                (RunQ .sl P (Instr.loadAt T_sl_uint8 (.pointer (some (Go.Addr.add a25 9)))) w33 fun (s44 : Sl) =>
                RunQ .sl P (Instr.loadAt T_sl_uint8 (.pointer (some (Go.Addr.add a0 4)))) w33 fun (s45 : Sl) =>
                CallP P F_ref03_Same [s44.v, s45.v] w33 fun (v46 : Value) w47 =>
                TyP .bool v46 fun (b48 : Bool) =>
                R (.bool b48) w47))
                (R (.bool false) w33))
                (R (.bool false) w33))
                (R (.bool false) w33))
def an_law12_RaftKeeps : Ann := ⟨[(11, []), (5, []), (3, [(9, .bool)])], [], []⟩
theorem e_law12_RaftKeeps (R : Value → World → Prop) (x0 : Int) (x1 : Int) (x2 : Value) (w : World) : denF P an_law12_RaftKeeps Try.f3 [.int .i64 x0, .int .i64 x1, x2] w R = S_law12_RaftKeeps R x0 x1 x2 w := by kernel_rfl
theorem c_law12_RaftKeeps {R : Value → World → Prop} {x0 : Int} {x1 : Int} {x2 : Value} {w : World} (h : S_law12_RaftKeeps R x0 x1 x2 w) : CallP P F_law12_RaftKeeps [.int .i64 x0, .int .i64 x1, x2] w R := calls_of_denF (an := an_law12_RaftKeeps) Try.func3 (by rw [e_law12_RaftKeeps]; exact h)


/-- penstock/penstocklaw12.RaftOwn -/
def S_law12_RaftOwn (R : Value → World → Prop) (x0 : Sl) (w : World) : Prop :=
 CallP P F_raft_New [(.int .i64 0), (.int .i64 1), (.agg #[(.int .i64 0), (.int .i64 (-1)), (.int .i64 0), (.int .i64 0), (.slice none 0 0), (.slice none 0 0)])] w fun (v0 : Value) w1 =>
 TupP [.ptr, (.int .i64)] v0 fun (t2 : Option Addr × Int × Unit) =>
  JoinP (T := Unit) (fun J3 =>
   CallP P F_law12_awake [] w1 fun (v6 : Value) w7 =>
    TyP .bool v6 fun (b8 : Bool) =>
     ifB (!b8)
      (R (.bool false) w7)
      (ifB (Option.isNone t2.fst)
       (R (.bool false) w7)
       (ifB (t2.snd.fst != 0)
        (R (.bool false) w7)
        (J3 (some ()) w7))))
   fun t4 w5 =>
   LoopP (T := Int × Unit) (some (0, ())) w5 fun next9 t10 w11 =>
    ifB (decide (t10.fst < 4))
     (CallP P F_raft_Raft_Tick [(.pointer t2.fst), (.int .u64 0)] w11 fun (v12 : Value) w13 =>
      TupP [] v12 fun (t14 : Unit) =>
       next9 (some ((IntKind.i64.wrap (t10.fst + 1)), ())) w13)
     (LoopP (T := Int × Unit) (some (0, ())) w11 fun next15 t16 w17 =>
      ifB (decide (t16.fst < (↑x0.len : Int)))
       (RunQ .addr P (Instr.indexAt T_sl_sl_uint8 x0.v (.int .i64 t16.fst)) w17 fun (a18 : Addr) =>
        RunQ .sl P (Instr.loadAt T_sl_uint8 (.pointer (some a18))) w17 fun (s19 : Sl) =>
         JoinP (T := Unit) (fun J20 =>
          ifB (decide ((↑s19.len : Int) > 4096))
           (R (.bool true) w17)
           (ifB (decide (t16.fst > 50))
            (R (.bool true) w17)
            (J20 (some ()) w17)))
          fun t21 w22 =>
          RunK .sl P (Instr.buildSlice T_sl_uint8 0 #[]) w22 fun (s23 : Sl) w24 =>
           RunK .sl P (Builtin.append_ #[T_sl_uint8, T_sl_uint8] T_sl_uint8 #[s23.v, s19.v]) w24 fun (s25 : Sl) w26 =>
            CallP P F_raft_Raft_Propose [(.pointer t2.fst), s25.v] w26 fun (v27 : Value) w28 =>
             TupP [(.int .i64), (.int .i64)] v27 fun (t29 : Int × Int × Unit) =>
              ifB (t29.snd.fst != 0)
               (R (.bool false) w28)
               (LoopP (T := Int × Unit) (some (0, ())) w28 fun next30 t31 w32 =>
                ifB (decide (t31.fst < (↑s25.len : Int)))
                (RunQ .addr P (Instr.indexAt T_sl_uint8 s25.v (.int .i64 t31.fst)) w32 fun (a33 : Addr) =>
                StoreP P T_uint8 (.pointer (some a33)) (.int .u8 1) w32 fun w34 =>
                next30 (some ((IntKind.i64.wrap (t31.fst + 1)), ())) w34)
                (next15 (some ((IntKind.i64.wrap (t16.fst + 1)), ())) w32)))
       (CallP P F_raft_Raft_Take [(.pointer t2.fst)] w17 fun (v35 : Value) w36 =>
        TyP .val v35 fun (v37 : Value) =>
         RunK .addr P (Instr.alloc T_api_Ready true (.tuple #[])) w36 fun (a38 : Addr) w39 =>
          StoreP P T_api_Ready (.pointer (some a38)) v37 w39 fun w40 =>
           JoinP (T := Unit) (fun J41 =>
            RunQ .sl P (Instr.loadAt T_sl_api_Entry (.pointer (some ((Go.Addr.add a38 1).add 5)))) w40 fun (s44 : Sl) =>
             RunQ .sl P (Instr.loadAt T_sl_api_Commit (.pointer (some (Go.Addr.add a38 10)))) w40 fun (s45 : Sl) =>
              ifB ((↑s44.len : Int) != (↑s45.len : Int))
               (R (.bool false) w40)
               (RunQ .sl P (Instr.loadAt T_sl_api_Commit (.pointer (some (Go.Addr.add a38 10)))) w40 fun (s46 : Sl) =>
                RunQ .sl P (Instr.loadAt T_sl_api_Commit (.pointer (some (Go.Addr.add a38 10)))) w40 fun (s47 : Sl) =>
                ifB ((↑s46.len : Int) != IntKind.i64.wrap (1 + if IntKind.i64.wrap ((↑s47.len : Int) - 1) < (↑x0.len : Int) then IntKind.i64.wrap ((↑s47.len : Int) - 1) else (↑x0.len : Int)))
                (R (.bool false) w40)
                (J41 (some ()) w40)))
            fun t42 w43 =>
            LoopP (T := Int × Unit) (some (0, ())) w43 fun next48 t49 w50 =>
             ifB (decide (t49.fst < (↑x0.len : Int)))
              (RunQ .addr P (Instr.indexAt T_sl_sl_uint8 x0.v (.int .i64 t49.fst)) w50 fun (a51 : Addr) =>
               RunQ .sl P (Instr.loadAt T_sl_uint8 (.pointer (some a51))) w50 fun (s52 : Sl) =>
                JoinP (T := Unit) (fun J53 =>
                RunQ .sl P (Instr.loadAt T_sl_api_Commit (.pointer (some (Go.Addr.add a38 10)))) w50 fun (s56 : Sl) =>
                RunQ .addr P (Instr.indexAt T_sl_api_Commit s56.v (.int .i64 (IntKind.i64.wrap (t49.fst + 1)))) w50 fun (a57 : Addr) =>
                RunQ .sl P (Instr.loadAt T_sl_uint8 (.pointer (some (Go.Addr.add a57 1)))) w50 fun (s58 : Sl) =>
                CallP P F_ref03_Same [s58.v, s52.v] w50 fun (v59 : Value) w60 =>
                TyP .bool v59 fun (b61 : Bool) =>
                ifB (!b61)
                (R (.bool false) w60)
                (RunQ .sl P (Instr.loadAt T_sl_api_Entry (.pointer (some ((Go.Addr.add a38 1).add 5)))) w60 fun (s62 : Sl) =>
                RunQ .addr P (Instr.indexAt T_sl_api_Entry s62.v (.int .i64 (IntKind.i64.wrap (t49.fst + 1)))) w60 fun (a63 : Addr) =>
                RunQ .sl P (Instr.loadAt T_sl_uint8 (.pointer (some (Go.Addr.add a63 1)))) w60 fun (s64 : Sl) =>
                CallP P F_ref03_Same [s64.v, s52.v] w60 fun (v65 : Value) w66 =>
                TyP .bool v65 fun (b67 : Bool) =>
                ifB (!b67)
                (R (.bool false) w66)
                (J53 (some ()) w66)))
                fun t54 w55 =>
                RunQ .sl P (Instr.loadAt T_sl_api_Commit (.pointer (some (Go.Addr.add a38 10)))) w55 fun (s68 : Sl) =>
                RunQ .addr P (Instr.indexAt T_sl_api_Commit s68.v (.int .i64 (IntKind.i64.wrap (t49.fst + 1)))) w55 fun (a69 : Addr) =>
                RunQ .sl P (Instr.loadAt T_sl_uint8 (.pointer (some (Go.Addr.add a69 1)))) w55 fun (s70 : Sl) =>
                LoopP (T := Int × Unit) (some (0, ())) w55 fun next71 t72 w73 =>
                ifB (decide (t72.fst < (↑s70.len : Int)))
                (RunQ .sl P (Instr.loadAt T_sl_api_Commit (.pointer (some (Go.Addr.add a38 10)))) w73 fun (s74 : Sl) =>
                RunQ .addr P (Instr.indexAt T_sl_api_Commit s74.v (.int .i64 (IntKind.i64.wrap (t49.fst + 1)))) w73 fun (a75 : Addr) =>
                RunQ .sl P (Instr.loadAt T_sl_uint8 (.pointer (some (Go.Addr.add a75 1)))) w73 fun (s76 : Sl) =>
                RunQ .addr P (Instr.indexAt T_sl_uint8 s76.v (.int .i64 t72.fst)) w73 fun (a77 : Addr) =>
                StoreP P T_uint8 (.pointer (some a77)) (.int .u8 2) w73 fun w78 =>
                RunQ .sl P (Instr.loadAt T_sl_api_Entry (.pointer (some ((Go.Addr.add a38 1).add 5)))) w78 fun (s79 : Sl) =>
                RunQ .addr P (Instr.indexAt T_sl_api_Entry s79.v (.int .i64 (IntKind.i64.wrap (t49.fst + 1)))) w78 fun (a80 : Addr) =>
                RunQ .sl P (Instr.loadAt T_sl_uint8 (.pointer (some (Go.Addr.add a80 1)))) w78 fun (s81 : Sl) =>
                RunQ .addr P (Instr.indexAt T_sl_uint8 s81.v (.int .i64 t72.fst)) w78 fun (a82 : Addr) =>
                StoreP P T_uint8 (.pointer (some a82)) (.int .u8 3) w78 fun w83 =>
                next71 (some ((IntKind.i64.wrap (t72.fst + 1)), ())) w83)
                (next48 (some ((IntKind.i64.wrap (t49.fst + 1)), ())) w73))
              (CallP P F_raft_Raft_Propose [(.pointer t2.fst), (.slice none 0 0)] w50 fun (v84 : Value) w85 =>
               TupP [(.int .i64), (.int .i64)] v84 fun (t86 : Int × Int × Unit) =>
                CallP P F_raft_Raft_Take [(.pointer t2.fst)] w85 fun (v87 : Value) w88 =>
                TyP .val v87 fun (v89 : Value) =>
                RunK .addr P (Instr.alloc T_api_Ready true (.tuple #[])) w88 fun (a90 : Addr) w91 =>
                StoreP P T_api_Ready (.pointer (some a90)) v89 w91 fun w92 =>
                LoopP (T := Int × Unit) (some (0, ())) w92 fun next93 t94 w95 =>
                ifB (decide (t94.fst < (↑x0.len : Int)))
                (RunQ .addr P (Instr.indexAt T_sl_sl_uint8 x0.v (.int .i64 t94.fst)) w95 fun (a96 : Addr) =>
                RunQ .sl P (Instr.loadAt T_sl_uint8 (.pointer (some a96))) w95 fun (s97 : Sl) =>
                RunQ .sl P (Instr.loadAt T_sl_api_Entry (.pointer (some ((Go.Addr.add a90 1).add 5)))) w95 fun (s98 : Sl) =>
                RunQ .addr P (Instr.indexAt T_sl_api_Entry s98.v (.int .i64 (IntKind.i64.wrap (t94.fst + 1)))) w95 fun (a99 : Addr) =>
                RunQ .sl P (Instr.loadAt T_sl_uint8 (.pointer (some (Go.Addr.add a99 1)))) w95 fun (s100 : Sl) =>
                CallP P F_ref03_Same [s100.v, s97.v] w95 fun (v101 : Value) w102 =>
                TyP .bool v101 fun (b103 : Bool) =>
                ifB (!b103)
                (R (.bool false) w102)
                (next93 (some ((IntKind.i64.wrap (t94.fst + 1)), ())) w102))
                (R (.bool true) w95))))
def an_law12_RaftOwn : Ann := ⟨[(13, []), (31, []), (26, []), (4, [])], [(5, [(5, (.int .i64))]), (18, [(67, (.int .i64))]), (9, [(42, (.int .i64))]), (32, [(137, (.int .i64))]), (27, [(101, (.int .i64))]), (41, [(167, (.int .i64))])], []⟩
theorem e_law12_RaftOwn (R : Value → World → Prop) (x0 : Sl) (w : World) : denF P an_law12_RaftOwn Try.f4 [x0.v] w R = S_law12_RaftOwn R x0 w := by kernel_rfl
theorem c_law12_RaftOwn {R : Value → World → Prop} {x0 : Sl} {w : World} (h : S_law12_RaftOwn R x0 w) : CallP P F_law12_RaftOwn [x0.v] w R := calls_of_denF (an := an_law12_RaftOwn) Try.func4 (by rw [e_law12_RaftOwn]; exact h)


/-- penstock/penstocklaw12.RaftGroup -/
def S_law12_RaftGroup (R : Value → World → Prop) (x0 : Int) (x1 : Sl) (w : World) : Prop :=
 CallP P F_law12_awake [] w fun (v0 : Value) w1 =>
 TyP .bool v0 fun (b2 : Bool) =>
  ifB (!b2)
   (R (.bool false) w1)
   (CallP P F_law12_begin [(.int .i64 (IntKind.i64.wrap (1 + IntKind.i64.wrap (Int.tmod x0 5))))] w1 fun (v3 : Value) w4 =>
    TyP .ptr v3 fun (p5 : Option Addr) =>
     nilCk p5 fun (a6 : Addr) =>
      RunQ .bool P (Instr.loadAt T_bool (.pointer (some (a6.add 6)))) w4 fun (b7 : Bool) =>
       ifB b7
        (R (.bool false) w4)
        (LoopP (T := Int × Unit) (some (0, ())) w4 fun next8 t9 w10 =>
         ifB (decide (t9.fst < (↑x1.len : Int)))
          (RunQ .addr P (Instr.indexAt T_sl_penstocklaw12_Act x1.v (.int .i64 t9.fst)) w10 fun (a11 : Addr) =>
           RunQ .val P (Instr.loadAt T_penstocklaw12_Act (.pointer (some a11))) w10 fun (v12 : Value) =>
            RunK .addr P (Instr.alloc T_penstocklaw12_Act true (.tuple #[])) w10 fun (a13 : Addr) w14 =>
             StoreP P T_penstocklaw12_Act (.pointer (some a13)) v12 w14 fun w15 =>
              RunQ .val P (Instr.loadAt T_penstocklaw12_Act (.pointer (some a13))) w15 fun (v16 : Value) =>
               CallP P F_law12_group_act [(.pointer p5), v16] w15 fun (v17 : Value) w18 =>
                TupP [] v17 fun (t19 : Unit) =>
                nilCk p5 fun (a20 : Addr) =>
                RunQ .bool P (Instr.loadAt T_bool (.pointer (some (a20.add 6)))) w18 fun (b21 : Bool) =>
                ifB b21
                (R (.bool false) w18)
                (next8 (some ((IntKind.i64.wrap (t9.fst + 1)), ())) w18))
          (R (.bool true) w10)))
def an_law12_RaftGroup : Ann := ⟨[], [(7, [(21, (.int .i64))])], []⟩
theorem e_law12_RaftGroup (R : Value → World → Prop) (x0 : Int) (x1 : Sl) (w : World) : denF P an_law12_RaftGroup Try.f5 [.int .u8 x0, x1.v] w R = S_law12_RaftGroup R x0 x1 w := by kernel_rfl
theorem c_law12_RaftGroup {R : Value → World → Prop} {x0 : Int} {x1 : Sl} {w : World} (h : S_law12_RaftGroup R x0 x1 w) : CallP P F_law12_RaftGroup [.int .u8 x0, x1.v] w R := calls_of_denF (an := an_law12_RaftGroup) Try.func5 (by rw [e_law12_RaftGroup]; exact h)


/-- penstock/penstocklaw12.RaftPiles -/
def S_law12_RaftPiles (R : Value → World → Prop) (x0 : Int) (w : World) : Prop :=
 CallP P F_law12_begin [(.int .i64 2)] w fun (v0 : Value) w1 =>
 TyP .ptr v0 fun (p2 : Option Addr) =>
  JoinP (T := Unit) (fun J3 =>
   CallP P F_law12_awake [] w1 fun (v6 : Value) w7 =>
    TyP .bool v6 fun (b8 : Bool) =>
     ifB (!b8)
      (R (.bool false) w7)
      (nilCk p2 fun (a9 : Addr) =>
       RunQ .bool P (Instr.loadAt T_bool (.pointer (some (a9.add 6)))) w7 fun (b10 : Bool) =>
        ifB b10
         (R (.bool false) w7)
         (J3 (some ()) w7)))
   fun t4 w5 =>
   CallP P F_law12_group_rounds [(.pointer p2), (.int .i64 20), (.int .i64 2)] w5 fun (v11 : Value) w12 =>
    TupP [] v11 fun (t13 : Unit) =>
     LoopP (T := Int × Int × Unit) (some ((-1), (0, ()))) w12 fun next14 t15 w16 =>
      ifB (decide (t15.snd.fst < 2))
       (nilCk p2 fun (a17 : Addr) =>
        RunQ .sl P (Instr.loadAt T_sl_p_raft_Raft (.pointer (some (a17.add 0)))) w16 fun (s18 : Sl) =>
         RunQ .addr P (Instr.indexAt T_sl_p_raft_Raft s18.v (.int .i64 t15.snd.fst)) w16 fun (a19 : Addr) =>
          RunQ .ptr P (Instr.loadAt T_p_raft_Raft (.pointer (some a19))) w16 fun (p20 : Option Addr) =>
           CallP P F_raft_Raft_State [(.pointer p20)] w16 fun (v21 : Value) w22 =>
            TupP [(.int .i64), (.int .i64), (.int .i64), (.int .i64), (.int .i64)] v21 fun (t23 : Int × Int × Int × Int × Int × Unit) =>
             ifB (t23.fst == 3)
              (next14 (some (t15.snd.fst, ((IntKind.i64.wrap (t15.snd.fst + 1)), ()))) w22)
              (next14 (some (t15.fst, ((IntKind.i64.wrap (t15.snd.fst + 1)), ()))) w22))
       (ifB (decide (t15.fst < 0))
        (R (.bool false) w16)
        (nilCk p2 fun (a24 : Addr) =>
         StoreP P T_sl_api_RMsg (.pointer (some (a24.add 2))) (.slice none 0 0) w16 fun w25 =>
          nilCk p2 fun (a26 : Addr) =>
           RunQ .sl P (Instr.loadAt T_sl_p_raft_Raft (.pointer (some (a26.add 0)))) w25 fun (s27 : Sl) =>
            RunQ .addr P (Instr.indexAt T_sl_p_raft_Raft s27.v (.int .i64 t15.fst)) w25 fun (a28 : Addr) =>
             RunQ .ptr P (Instr.loadAt T_p_raft_Raft (.pointer (some a28))) w25 fun (p29 : Option Addr) =>
              CallP P F_raft_Raft_State [(.pointer p29)] w25 fun (v30 : Value) w31 =>
               TupP [(.int .i64), (.int .i64), (.int .i64), (.int .i64), (.int .i64)] v30 fun (t32 : Int × Int × Int × Int × Int × Unit) =>
                LoopP (T := Int × Unit) (some (0, ())) w31 fun next33 t34 w35 =>
                ifB (decide (t34.fst < IntKind.i64.wrap (Int.tmod x0 90)))
                (nilCk p2 fun (a36 : Addr) =>
                RunQ .sl P (Instr.loadAt T_sl_p_raft_Raft (.pointer (some (a36.add 0)))) w35 fun (s37 : Sl) =>
                RunQ .addr P (Instr.indexAt T_sl_p_raft_Raft s37.v (.int .i64 t15.fst)) w35 fun (a38 : Addr) =>
                RunQ .ptr P (Instr.loadAt T_p_raft_Raft (.pointer (some a38))) w35 fun (p39 : Option Addr) =>
                RunK .sl P (Instr.buildSlice T_sl_uint8 1 #[(0, (.int .u8 (IntKind.u8.wrap t34.fst)))]) w35 fun (s40 : Sl) w41 =>
                CallP P F_raft_Raft_Propose [(.pointer p39), s40.v] w41 fun (v42 : Value) w43 =>
                TupP [(.int .i64), (.int .i64)] v42 fun (t44 : Int × Int × Unit) =>
                ifB (!(t44.snd.fst == 0) == decide (IntKind.i64.wrap (IntKind.i64.wrap (t32.snd.snd.snd.snd.fst - t32.snd.snd.snd.fst) + t34.fst) < 64))
                (R (.bool false) w43)
                (ifB (t44.snd.fst != 0)
                (ifB (t44.snd.fst != 3)
                (R (.bool false) w43)
                (next33 (some ((IntKind.i64.wrap (t34.fst + 1)), ())) w43))
                (next33 (some ((IntKind.i64.wrap (t34.fst + 1)), ())) w43)))
                (CallP P F_law12_group_take [(.pointer p2), (.int .i64 t15.fst)] w35 fun (v45 : Value) w46 =>
                TupP [] v45 fun (t47 : Unit) =>
                nilCk p2 fun (a48 : Addr) =>
                RunQ .sl P (Instr.loadAt T_sl_api_RMsg (.pointer (some (a48.add 2)))) w46 fun (s49 : Sl) =>
                LoopP (T := Int × Unit) (some (0, ())) w46 fun next50 t51 w52 =>
                ifB (decide (t51.fst < (↑s49.len : Int)))
                (RunQ .addr P (Instr.indexAt T_sl_api_RMsg s49.v (.int .i64 t51.fst)) w52 fun (a53 : Addr) =>
                RunQ .val P (Instr.loadAt T_api_RMsg (.pointer (some a53))) w52 fun (v54 : Value) =>
                RunK .addr P (Instr.alloc T_api_RMsg true (.tuple #[])) w52 fun (a55 : Addr) w56 =>
                StoreP P T_api_RMsg (.pointer (some a55)) v54 w56 fun w57 =>
                RunQ .sl P (Instr.loadAt T_sl_api_Entry (.pointer (some (Go.Addr.add a55 8)))) w57 fun (s58 : Sl) =>
                ifB (decide ((↑s58.len : Int) > 16))
                (R (.bool false) w57)
                (next50 (some ((IntKind.i64.wrap (t51.fst + 1)), ())) w57))
                (nilCk p2 fun (a59 : Addr) =>
                StoreP P T_sl_api_RMsg (.pointer (some (a59.add 2))) (.slice none 0 0) w52 fun w60 =>
                CallP P F_law12_group_rounds [(.pointer p2), (.int .i64 40), (.int .i64 2)] w60 fun (v61 : Value) w62 =>
                TupP [] v61 fun (t63 : Unit) =>
                nilCk p2 fun (a64 : Addr) =>
                RunQ .sl P (Instr.loadAt T_sl_p_raft_Raft (.pointer (some (a64.add 0)))) w62 fun (s65 : Sl) =>
                RunQ .addr P (Instr.indexAt T_sl_p_raft_Raft s65.v (.int .i64 t15.fst)) w62 fun (a66 : Addr) =>
                RunQ .ptr P (Instr.loadAt T_p_raft_Raft (.pointer (some a66))) w62 fun (p67 : Option Addr) =>
                CallP P F_raft_Raft_State [(.pointer p67)] w62 fun (v68 : Value) w69 =>
                TupP [(.int .i64), (.int .i64), (.int .i64), (.int .i64), (.int .i64)] v68 fun (t70 : Int × Int × Int × Int × Int × Unit) =>
                nilCk p2 fun (a71 : Addr) =>
                RunQ .sl P (Instr.loadAt T_sl_p_raft_Raft (.pointer (some (a71.add 0)))) w69 fun (s72 : Sl) =>
                RunQ .addr P (Instr.indexAt T_sl_p_raft_Raft s72.v (.int .i64 t15.fst)) w69 fun (a73 : Addr) =>
                RunQ .ptr P (Instr.loadAt T_p_raft_Raft (.pointer (some a73))) w69 fun (p74 : Option Addr) =>
                CallP P F_raft_Raft_Propose [(.pointer p74), (.slice none 0 0)] w69 fun (v75 : Value) w76 =>
                TupP [(.int .i64), (.int .i64)] v75 fun (t77 : Int × Int × Unit) =>
                ifB (t70.snd.snd.snd.fst == t70.snd.snd.snd.snd.fst)
                (ifB (t77.snd.fst == 0)
                (nilCk p2 fun (a78 : Addr) =>
                RunQ .bool P (Instr.loadAt T_bool (.pointer (some (a78.add 6)))) w76 fun (b79 : Bool) =>
                R (.bool (!b79)) w76)
                (R (.bool false) w76))
                (R (.bool false) w76)))))
def an_law12_RaftPiles : Ann := ⟨[(4, [])], [(7, [(4, (.int .i64)), (5, (.int .i64))]), (18, [(17, (.int .i64))]), (25, [(122, (.int .i64))])], []⟩
theorem e_law12_RaftPiles (R : Value → World → Prop) (x0 : Int) (w : World) : denF P an_law12_RaftPiles Try.f6 [.int .u8 x0] w R = S_law12_RaftPiles R x0 w := by kernel_rfl
theorem c_law12_RaftPiles {R : Value → World → Prop} {x0 : Int} {w : World} (h : S_law12_RaftPiles R x0 w) : CallP P F_law12_RaftPiles [.int .u8 x0] w R := calls_of_denF (an := an_law12_RaftPiles) Try.func6 (by rw [e_law12_RaftPiles]; exact h)


/-- penstock/penstocklaw12.RaftNone -/
def S_law12_RaftNone (R : Value → World → Prop) (x0 : Value) (w : World) : Prop :=
 RunK .addr P (Instr.box T_penstocklaw12_Op x0) w fun (a0 : Addr) w1 =>
 RunQ (.int .u64) P (Instr.loadAt T_uint64 (.pointer (some (Go.Addr.add a0 1)))) w1 fun (n2 : Int) =>
  CallP P F_raft_Raft_Tick [(.pointer none), (.int .u64 n2)] w1 fun (v3 : Value) w4 =>
   TupP [] v3 fun (t5 : Unit) =>
    RunQ .val P (Instr.loadAt T_api_RMsg (.pointer (some (Go.Addr.add a0 4)))) w4 fun (v6 : Value) =>
     CallP P F_raft_Raft_Step [(.pointer none), v6] w4 fun (v7 : Value) w8 =>
      TupP [] v7 fun (t9 : Unit) =>
       CallP P F_raft_Raft_Take [(.pointer none)] w8 fun (v10 : Value) w11 =>
        TyP .val v10 fun (v12 : Value) =>
         RunK .addr P (Instr.alloc T_api_Ready true (.tuple #[])) w11 fun (a13 : Addr) w14 =>
          StoreP P T_api_Ready (.pointer (some a13)) v12 w14 fun w15 =>
           CallP P F_raft_Raft_State [(.pointer none)] w15 fun (v16 : Value) w17 =>
            TupP [(.int .i64), (.int .i64), (.int .i64), (.int .i64), (.int .i64)] v16 fun (t18 : Int × Int × Int × Int × Int × Unit) =>
             RunQ .sl P (Instr.loadAt T_sl_uint8 (.pointer (some (Go.Addr.add a0 3)))) w17 fun (s19 : Sl) =>
              CallP P F_raft_Raft_Propose [(.pointer none), s19.v] w17 fun (v20 : Value) w21 =>
               TupP [(.int .i64), (.int .i64)] v20 fun (t22 : Int × Int × Unit) =>
                CallP P F_law12_awake [] w21 fun (v23 : Value) w24 =>
                TyP .bool v23 fun (b25 : Bool) =>
                ifB b25
                (RunQ .bool P (Instr.loadAt T_bool (.pointer (some (Go.Addr.add a13 0)))) w24 fun (b26 : Bool) =>
                ifB (!b26)
                (RunQ .bool P (Instr.loadAt T_bool (.pointer (some (Go.Addr.add a13 8)))) w24 fun (b27 : Bool) =>
                ifB (!b27)
                (RunQ .sl P (Instr.loadAt T_sl_api_RMsg (.pointer (some (Go.Addr.add a13 7)))) w24 fun (s28 : Sl) =>
                RunQ .sl P (Instr.loadAt T_sl_api_Commit (.pointer (some (Go.Addr.add a13 10)))) w24 fun (s29 : Sl) =>
                ifB (IntKind.i64.wrap ((↑s28.len : Int) + (↑s29.len : Int)) == 0)
                (ifB (t18.fst == 0)
                (ifB (t18.snd.fst == 0)
                (ifB (t18.snd.snd.fst == 0)
                (ifB (t18.snd.snd.snd.fst == 0)
                (ifB (t18.snd.snd.snd.snd.fst == 0)
                (ifB (t22.fst == 0)
                (ifB (t22.snd.fst == 5)
                (RunQ (.int .i64) P (Instr.loadAt T_int (.pointer (some (Go.Addr.add a0 2)))) w24 fun (n30 : Int) =>
                RunQ .sl P (Instr.loadAt T_sl_uint8 (.pointer (some (Go.Addr.add a0 3)))) w24 fun (s31 : Sl) =>
                CallP P F_raft_Raft_Compact [(.pointer none), (.int .i64 n30), s31.v] w24 fun (v32 : Value) w33 =>
                TyP (.int .i64) v32 fun (n34 : Int) =>
                R (.bool (n34 == 5)) w33)
                (R (.bool false) w24))
                (R (.bool false) w24))
                (R (.bool false) w24))
                (R (.bool false) w24))
                (R (.bool false) w24))
                (R (.bool false) w24))
                (R (.bool false) w24))
                (R (.bool false) w24))
                (R (.bool false) w24))
                (R (.bool false) w24))
                (R (.bool false) w24)
def an_law12_RaftNone : Ann := ⟨[], [], []⟩
theorem e_law12_RaftNone (R : Value → World → Prop) (x0 : Value) (w : World) : denF P an_law12_RaftNone Try.f7 [x0] w R = S_law12_RaftNone R x0 w := by kernel_rfl
theorem c_law12_RaftNone {R : Value → World → Prop} {x0 : Value} {w : World} (h : S_law12_RaftNone R x0 w) : CallP P F_law12_RaftNone [x0] w R := calls_of_denF (an := an_law12_RaftNone) Try.func7 (by rw [e_law12_RaftNone]; exact h)


/-- penstock/penstocklaw12.awake -/
def S_law12_awake (R : Value → World → Prop) (w : World) : Prop :=
 CallP P F_raft_New [(.int .i64 0), (.int .i64 1), (.agg #[(.int .i64 0), (.int .i64 (-1)), (.int .i64 0), (.int .i64 0), (.slice none 0 0), (.slice none 0 0)])] w fun (v0 : Value) w1 =>
 TupP [.ptr, (.int .i64)] v0 fun (t2 : Option Addr × Int × Unit) =>
  JoinP (T := Unit) (fun J3 =>
   ifB (Option.isNone t2.fst)
    (R (.bool false) w1)
    (ifB (t2.snd.fst != 0)
     (R (.bool false) w1)
     (J3 (some ()) w1)))
   fun t4 w5 =>
   LoopP (T := Int × Unit) (some (0, ())) w5 fun next6 t7 w8 =>
    ifB (decide (t7.fst < 4))
     (CallP P F_raft_Raft_Tick [(.pointer t2.fst), (.int .u64 0)] w8 fun (v9 : Value) w10 =>
      TupP [] v9 fun (t11 : Unit) =>
       next6 (some ((IntKind.i64.wrap (t7.fst + 1)), ())) w10)
     (RunK .sl P (Instr.buildSlice T_sl_uint8 1 #[(0, (.int .u8 97))]) w8 fun (s12 : Sl) w13 =>
      RunK .sl P (convert T_sl_uint8 T_sl_uint8 s12.v) w13 fun (s14 : Sl) w15 =>
       CallP P F_raft_Raft_Propose [(.pointer t2.fst), s14.v] w15 fun (v16 : Value) w17 =>
        TupP [(.int .i64), (.int .i64)] v16 fun (t18 : Int × Int × Unit) =>
         CallP P F_raft_Raft_Take [(.pointer t2.fst)] w17 fun (v19 : Value) w20 =>
          TyP .val v19 fun (v21 : Value) =>
           RunK .addr P (Instr.alloc T_api_Ready true (.tuple #[])) w20 fun (a22 : Addr) w23 =>
            StoreP P T_api_Ready (.pointer (some a22)) v21 w23 fun w24 =>
             CallP P F_raft_Raft_State [(.pointer t2.fst)] w24 fun (v25 : Value) w26 =>
              TupP [(.int .i64), (.int .i64), (.int .i64), (.int .i64), (.int .i64)] v25 fun (t27 : Int × Int × Int × Int × Int × Unit) =>
               ifB (t18.snd.fst == 0)
                (ifB (t18.fst == 2)
                (ifB (t27.fst == 3)
                (ifB (t27.snd.fst == 1)
                (ifB (t27.snd.snd.fst == 0)
                (ifB (t27.snd.snd.snd.fst == 2)
                (ifB (t27.snd.snd.snd.snd.fst == 2)
                (RunQ .bool P (Instr.loadAt T_bool (.pointer (some (Go.Addr.add a22 0)))) w26 fun (b28 : Bool) =>
                ifB b28
                (RunQ .sl P (Instr.loadAt T_sl_api_Commit (.pointer (some (Go.Addr.add a22 10)))) w26 fun (s29 : Sl) =>
                ifB ((↑s29.len : Int) == 2)
                (RunQ .sl P (Instr.loadAt T_sl_api_Commit (.pointer (some (Go.Addr.add a22 10)))) w26 fun (s30 : Sl) =>
                RunQ .addr P (Instr.indexAt T_sl_api_Commit s30.v (.int .i64 1)) w26 fun (a31 : Addr) =>
                RunQ .sl P (Instr.loadAt T_sl_uint8 (.pointer (some (Go.Addr.add a31 1)))) w26 fun (s32 : Sl) =>
                RunK .str P (convert T_sl_uint8 T_string s32.v) w26 fun (t33 : ByteArray) w34 =>
                R (.bool (ByteArray.toList t33 == (ByteArray.mk #[97]).toList)) w34)
                (R (.bool false) w26))
                (R (.bool false) w26))
                (R (.bool false) w26))
                (R (.bool false) w26))
                (R (.bool false) w26))
                (R (.bool false) w26))
                (R (.bool false) w26))
                (R (.bool false) w26))
                (R (.bool false) w26))
def an_law12_awake : Ann := ⟨[(4, [])], [(5, [(3, (.int .i64))])], []⟩
theorem e_law12_awake (R : Value → World → Prop) (w : World) : denF P an_law12_awake Try.f10 [] w R = S_law12_awake R  w := by kernel_rfl
theorem c_law12_awake {R : Value → World → Prop} {w : World} (h : S_law12_awake R  w) : CallP P F_law12_awake [] w R := calls_of_denF (an := an_law12_awake) Try.func10 (by rw [e_law12_awake]; exact h)


/-- penstock/penstocklaw12.begin -/
def S_law12_begin (R : Value → World → Prop) (x0 : Int) (w : World) : Prop :=
 RunK .addr P (Instr.box T_penstocklaw12_group (.agg #[(.slice none 0 0), (.slice none 0 0), (.slice none 0 0), (.slice none 0 0), (.slice none 0 0), (.slice none 0 0), (.bool false)])) w fun (a0 : Addr) w1 =>
 LoopP (T := Int × Unit) (some (0, ())) w1 fun next2 t3 w4 =>
  ifB (decide (t3.fst < x0))
   (CallP P F_raft_New [(.int .i64 t3.fst), (.int .i64 x0), (.agg #[(.int .i64 0), (.int .i64 (-1)), (.int .i64 0), (.int .i64 0), (.slice none 0 0), (.slice none 0 0)])] w4 fun (v5 : Value) w6 =>
    TupP [.ptr, (.int .i64)] v5 fun (t7 : Option Addr × Int × Unit) =>
     RunQ .sl P (Instr.loadAt T_sl_p_raft_Raft (.pointer (some (Go.Addr.add a0 0)))) w6 fun (s8 : Sl) =>
      RunK .sl P (Instr.buildSlice T_sl_p_raft_Raft 1 #[(0, (.pointer t7.fst))]) w6 fun (s9 : Sl) w10 =>
       RunK .sl P (Builtin.append_ #[T_sl_p_raft_Raft, T_sl_p_raft_Raft] T_sl_p_raft_Raft #[s8.v, s9.v]) w10 fun (s11 : Sl) w12 =>
        StoreP P T_sl_p_raft_Raft (.pointer (some (Go.Addr.add a0 0))) s11.v w12 fun w13 =>
         RunQ .sl P (Instr.loadAt T_sl_api_Hard (.pointer (some (Go.Addr.add a0 1)))) w13 fun (s14 : Sl) =>
          RunK .sl P (Instr.buildSlice T_sl_api_Hard 1 #[(0, (.agg #[(.int .i64 0), (.int .i64 (-1)), (.int .i64 0), (.int .i64 0), (.slice none 0 0), (.slice none 0 0)]))]) w13 fun (s15 : Sl) w16 =>
           RunK .sl P (Builtin.append_ #[T_sl_api_Hard, T_sl_api_Hard] T_sl_api_Hard #[s14.v, s15.v]) w16 fun (s17 : Sl) w18 =>
            StoreP P T_sl_api_Hard (.pointer (some (Go.Addr.add a0 1))) s17.v w18 fun w19 =>
             RunQ .sl P (Instr.loadAt T_sl_int (.pointer (some (Go.Addr.add a0 5)))) w19 fun (s20 : Sl) =>
              RunK .sl P (Instr.buildSlice T_sl_int 1 #[(0, (.int .i64 0))]) w19 fun (s21 : Sl) w22 =>
               RunK .sl P (Builtin.append_ #[T_sl_int, T_sl_int] T_sl_int #[s20.v, s21.v]) w22 fun (s23 : Sl) w24 =>
                StoreP P T_sl_int (.pointer (some (Go.Addr.add a0 5))) s23.v w24 fun w25 =>
                RunQ .bool P (Instr.loadAt T_bool (.pointer (some (Go.Addr.add a0 6)))) w25 fun (b26 : Bool) =>
                ifB b26
                (StoreP P T_bool (.pointer (some (Go.Addr.add a0 6))) (.bool true) w25 fun w27 =>
                next2 (some ((IntKind.i64.wrap (t3.fst + 1)), ())) w27)
                (StoreP P T_bool (.pointer (some (Go.Addr.add a0 6))) (.bool (Option.isNone t7.fst)) w25 fun w28 =>
                next2 (some ((IntKind.i64.wrap (t3.fst + 1)), ())) w28))
   (R (.pointer (some a0)) w4)
def an_law12_begin : Ann := ⟨[], [(3, [(4, (.int .i64))])], []⟩
theorem e_law12_begin (R : Value → World → Prop) (x0 : Int) (w : World) : denF P an_law12_begin Try.f16 [.int .i64 x0] w R = S_law12_begin R x0 w := by kernel_rfl
theorem c_law12_begin {R : Value → World → Prop} {x0 : Int} {w : World} (h : S_law12_begin R x0 w) : CallP P F_law12_begin [.int .i64 x0] w R := calls_of_denF (an := an_law12_begin) Try.func16 (by rw [e_law12_begin]; exact h)


/-- (*penstock/penstocklaw12.group).act -/
def S_law12_group_act (R : Value → World → Prop) (x0 : Option Addr) (x1 : Value) (w : World) : Prop :=
 RunK .addr P (Instr.box T_penstocklaw12_Act x1) w fun (a0 : Addr) w1 =>
 ∃ S2 : World → Prop, (S2 w1.drew) ∧
   HRun S2 (.int .i64) P (Instr.loadAt T_int (.pointer (some (Go.Addr.add a0 1)))) fun (n3 : Int) =>
    nilCk x0 fun (a4 : Addr) =>
     HRun S2 .sl P (Instr.loadAt T_sl_p_raft_Raft (.pointer (some (a4.add 0)))) fun (s5 : Sl) =>
      CallP P F_law12_round [(.int .i64 n3), (.int .i64 ((↑s5.len : Int)))] w1.drew fun (v6 : Value) w7 =>
       TyP (.int .i64) v6 fun (n8 : Int) =>
        (S2 w7) ∧
         RunQ (.int .i64) P (Instr.loadAt T_int (.pointer (some (Go.Addr.add a0 0)))) w7 fun (n9 : Int) =>
          ifB (n9 == 0)
           (∃ S10 : World → Prop, (S10 w7.drew) ∧
             nilCk x0 fun (a11 : Addr) =>
              HRun S10 .sl P (Instr.loadAt T_sl_p_raft_Raft (.pointer (some (a11.add 0)))) fun (s12 : Sl) =>
               HRun S10 .addr P (Instr.indexAt T_sl_p_raft_Raft s12.v (.int .i64 n8)) fun (a13 : Addr) =>
                HRun S10 .ptr P (Instr.loadAt T_p_raft_Raft (.pointer (some a13))) fun (p14 : Option Addr) =>
                HRun S10 (.int .i64) P (Instr.loadAt T_int (.pointer (some (Go.Addr.add a0 2)))) fun (n15 : Int) =>
                CallP P F_raft_Raft_Tick [(.pointer p14), (.int .u64 (IntKind.u64.wrap n15))] w7.drew fun (v16 : Value) w17 =>
                TupP [] v16 fun (t18 : Unit) =>
                (S10 w17) ∧
                CallP P F_law12_group_take [(.pointer x0), (.int .i64 n8)] w17 fun (v19 : Value) w20 =>
                TupP [] v19 fun (t21 : Unit) =>
                R (.tuple #[]) w20)
           (ifB (n9 == 1)
            (nilCk x0 fun (a22 : Addr) =>
             RunQ .sl P (Instr.loadAt T_sl_api_RMsg (.pointer (some (a22.add 2)))) w7 fun (s23 : Sl) =>
              ifB ((↑s23.len : Int) == 0)
               (R (.tuple #[]) w7)
               (JoinP (T := Addr × Unit) (fun J24 =>
                ∃ S27 : World → Prop, (S27 w7.drew) ∧
                nilCk x0 fun (a28 : Addr) =>
                (RunQ (.int .i64) P (Instr.loadAt T_int (.pointer (some (Go.Addr.add a0 1)))) w7.drew fun (n29 : Int) =>
                (S27 w7.drew) ∧
                (RunQ .sl P (Instr.loadAt T_sl_api_RMsg (.pointer (some (a28.add 2)))) w7.drew fun (s30 : Sl) =>
                (S27 w7.drew) ∧
                (CallP P F_law12_round [(.int .i64 n29), (.int .i64 ((↑s30.len : Int)))] w7.drew fun (v31 : Value) w32 =>
                TyP (.int .i64) v31 fun (n33 : Int) =>
                (S27 w32) ∧
                (CallP P F_law12_group_out [(.pointer x0), (.int .i64 n33)] w32 fun (v34 : Value) w35 =>
                TyP .val v34 fun (v36 : Value) =>
                (S27 w35) ∧
                RunK .addr P (Instr.alloc T_api_RMsg true (.tuple #[])) w35 fun (a37 : Addr) w38 =>
                (S27 w38) ∧
                StoreP P T_api_RMsg (.pointer (some a37)) v36 w38 fun w39 =>
                (S27 w39) ∧
                J24 (some (a37, ())) w39) ∧
                (RunK .addr P (Instr.alloc T_api_RMsg true (.tuple #[])) w32 fun (a40 : Addr) w41 =>
                (S27 w41) ∧
                CallP P F_law12_group_out [(.pointer x0), (.int .i64 n33)] w41 fun (v42 : Value) w43 =>
                TyP .val v42 fun (v44 : Value) =>
                (S27 w43) ∧
                StoreP P T_api_RMsg (.pointer (some a40)) v44 w43 fun w45 =>
                (S27 w45) ∧
                J24 (some (a40, ())) w45) ∧
                True) ∧
                (RunK .addr P (Instr.alloc T_api_RMsg true (.tuple #[])) w7.drew fun (a46 : Addr) w47 =>
                (S27 w47) ∧
                CallP P F_law12_round [(.int .i64 n29), (.int .i64 ((↑s30.len : Int)))] w47 fun (v48 : Value) w49 =>
                TyP (.int .i64) v48 fun (n50 : Int) =>
                (S27 w49) ∧
                CallP P F_law12_group_out [(.pointer x0), (.int .i64 n50)] w49 fun (v51 : Value) w52 =>
                TyP .val v51 fun (v53 : Value) =>
                (S27 w52) ∧
                StoreP P T_api_RMsg (.pointer (some a46)) v53 w52 fun w54 =>
                (S27 w54) ∧
                J24 (some (a46, ())) w54) ∧
                True) ∧
                (RunK .addr P (Instr.alloc T_api_RMsg true (.tuple #[])) w7.drew fun (a55 : Addr) w56 =>
                (S27 w56) ∧
                RunQ .sl P (Instr.loadAt T_sl_api_RMsg (.pointer (some (a28.add 2)))) w56 fun (s57 : Sl) =>
                (S27 w56) ∧
                CallP P F_law12_round [(.int .i64 n29), (.int .i64 ((↑s57.len : Int)))] w56 fun (v58 : Value) w59 =>
                TyP (.int .i64) v58 fun (n60 : Int) =>
                (S27 w59) ∧
                CallP P F_law12_group_out [(.pointer x0), (.int .i64 n60)] w59 fun (v61 : Value) w62 =>
                TyP .val v61 fun (v63 : Value) =>
                (S27 w62) ∧
                StoreP P T_api_RMsg (.pointer (some a55)) v63 w62 fun w64 =>
                (S27 w64) ∧
                J24 (some (a55, ())) w64) ∧
                True) ∧
                (RunQ .sl P (Instr.loadAt T_sl_api_RMsg (.pointer (some (a28.add 2)))) w7.drew fun (s65 : Sl) =>
                (S27 w7.drew) ∧
                (RunQ (.int .i64) P (Instr.loadAt T_int (.pointer (some (Go.Addr.add a0 1)))) w7.drew fun (n66 : Int) =>
                (S27 w7.drew) ∧
                (CallP P F_law12_round [(.int .i64 n66), (.int .i64 ((↑s65.len : Int)))] w7.drew fun (v67 : Value) w68 =>
                TyP (.int .i64) v67 fun (n69 : Int) =>
                (S27 w68) ∧
                (CallP P F_law12_group_out [(.pointer x0), (.int .i64 n69)] w68 fun (v70 : Value) w71 =>
                TyP .val v70 fun (v72 : Value) =>
                (S27 w71) ∧
                RunK .addr P (Instr.alloc T_api_RMsg true (.tuple #[])) w71 fun (a73 : Addr) w74 =>
                (S27 w74) ∧
                StoreP P T_api_RMsg (.pointer (some a73)) v72 w74 fun w75 =>
                (S27 w75) ∧
                J24 (some (a73, ())) w75) ∧
                (RunK .addr P (Instr.alloc T_api_RMsg true (.tuple #[])) w68 fun (a76 : Addr) w77 =>
                (S27 w77) ∧
                CallP P F_law12_group_out [(.pointer x0), (.int .i64 n69)] w77 fun (v78 : Value) w79 =>
                TyP .val v78 fun (v80 : Value) =>
                (S27 w79) ∧
                StoreP P T_api_RMsg (.pointer (some a76)) v80 w79 fun w81 =>
                (S27 w81) ∧
                J24 (some (a76, ())) w81) ∧
                True) ∧
                (RunK .addr P (Instr.alloc T_api_RMsg true (.tuple #[])) w7.drew fun (a82 : Addr) w83 =>
                (S27 w83) ∧
                CallP P F_law12_round [(.int .i64 n66), (.int .i64 ((↑s65.len : Int)))] w83 fun (v84 : Value) w85 =>
                TyP (.int .i64) v84 fun (n86 : Int) =>
                (S27 w85) ∧
                CallP P F_law12_group_out [(.pointer x0), (.int .i64 n86)] w85 fun (v87 : Value) w88 =>
                TyP .val v87 fun (v89 : Value) =>
                (S27 w88) ∧
                StoreP P T_api_RMsg (.pointer (some a82)) v89 w88 fun w90 =>
                (S27 w90) ∧
                J24 (some (a82, ())) w90) ∧
                True) ∧
                (RunK .addr P (Instr.alloc T_api_RMsg true (.tuple #[])) w7.drew fun (a91 : Addr) w92 =>
                (S27 w92) ∧
                RunQ (.int .i64) P (Instr.loadAt T_int (.pointer (some (Go.Addr.add a0 1)))) w92 fun (n93 : Int) =>
                (S27 w92) ∧
                CallP P F_law12_round [(.int .i64 n93), (.int .i64 ((↑s65.len : Int)))] w92 fun (v94 : Value) w95 =>
                TyP (.int .i64) v94 fun (n96 : Int) =>
                (S27 w95) ∧
                CallP P F_law12_group_out [(.pointer x0), (.int .i64 n96)] w95 fun (v97 : Value) w98 =>
                TyP .val v97 fun (v99 : Value) =>
                (S27 w98) ∧
                StoreP P T_api_RMsg (.pointer (some a91)) v99 w98 fun w100 =>
                (S27 w100) ∧
                J24 (some (a91, ())) w100) ∧
                True) ∧
                (RunK .addr P (Instr.alloc T_api_RMsg true (.tuple #[])) w7.drew fun (a101 : Addr) w102 =>
                (S27 w102) ∧
                (RunQ (.int .i64) P (Instr.loadAt T_int (.pointer (some (Go.Addr.add a0 1)))) w102 fun (n103 : Int) =>
                (S27 w102) ∧
                RunQ .sl P (Instr.loadAt T_sl_api_RMsg (.pointer (some (a28.add 2)))) w102 fun (s104 : Sl) =>
                (S27 w102) ∧
                CallP P F_law12_round [(.int .i64 n103), (.int .i64 ((↑s104.len : Int)))] w102 fun (v105 : Value) w106 =>
                TyP (.int .i64) v105 fun (n107 : Int) =>
                (S27 w106) ∧
                CallP P F_law12_group_out [(.pointer x0), (.int .i64 n107)] w106 fun (v108 : Value) w109 =>
                TyP .val v108 fun (v110 : Value) =>
                (S27 w109) ∧
                StoreP P T_api_RMsg (.pointer (some a101)) v110 w109 fun w111 =>
                (S27 w111) ∧
                J24 (some (a101, ())) w111) ∧
                (RunQ .sl P (Instr.loadAt T_sl_api_RMsg (.pointer (some (a28.add 2)))) w102 fun (s112 : Sl) =>
                (S27 w102) ∧
                RunQ (.int .i64) P (Instr.loadAt T_int (.pointer (some (Go.Addr.add a0 1)))) w102 fun (n113 : Int) =>
                (S27 w102) ∧
                CallP P F_law12_round [(.int .i64 n113), (.int .i64 ((↑s112.len : Int)))] w102 fun (v114 : Value) w115 =>
                TyP (.int .i64) v114 fun (n116 : Int) =>
                (S27 w115) ∧
                CallP P F_law12_group_out [(.pointer x0), (.int .i64 n116)] w115 fun (v117 : Value) w118 =>
                TyP .val v117 fun (v119 : Value) =>
                (S27 w118) ∧
                StoreP P T_api_RMsg (.pointer (some a101)) v119 w118 fun w120 =>
                (S27 w120) ∧
                J24 (some (a101, ())) w120) ∧
                True) ∧
                True)
                fun t25 w26 =>
                RunQ (.int .i64) P (Instr.loadAt T_int (.pointer (some (Go.Addr.add a0 0)))) w26 fun (n121 : Int) =>
                ifB (n121 == 3)
                (∃ S122 : World → Prop, (S122 w26.drew) ∧
                nilCk x0 fun (a123 : Addr) =>
                HRun S122 .val P (Instr.loadAt T_api_RMsg (.pointer (some t25.fst))) fun (v124 : Value) =>
                HRun S122 .val P (Instr.loadAt T_api_RMsg (.pointer (some t25.fst))) fun (v125 : Value) =>
                (RunQ .sl P (Instr.loadAt T_sl_api_RMsg (.pointer (some (a123.add 2)))) w26.drew fun (s126 : Sl) =>
                (S122 w26.drew) ∧
                CallP P F_law12_ownMsg [v125] w26.drew fun (v127 : Value) w128 =>
                TyP .val v127 fun (v129 : Value) =>
                (S122 w128) ∧
                RunK .sl P (Instr.buildSlice T_sl_api_RMsg 2 #[(0, v124), (1, v129)]) w128 fun (s130 : Sl) w131 =>
                (S122 w131) ∧
                RunK .sl P (Builtin.append_ #[T_sl_api_RMsg, T_sl_api_RMsg] T_sl_api_RMsg #[s126.v, s130.v]) w131 fun (s132 : Sl) w133 =>
                (S122 w133) ∧
                nilCk x0 fun (a134 : Addr) =>
                StoreP P T_sl_api_RMsg (.pointer (some (a134.add 2))) s132.v w133 fun w135 =>
                (S122 w135) ∧
                R (.tuple #[]) w135) ∧
                (CallP P F_law12_ownMsg [v125] w26.drew fun (v136 : Value) w137 =>
                TyP .val v136 fun (v138 : Value) =>
                (S122 w137) ∧
                (RunQ .sl P (Instr.loadAt T_sl_api_RMsg (.pointer (some (a123.add 2)))) w137 fun (s139 : Sl) =>
                (S122 w137) ∧
                RunK .sl P (Instr.buildSlice T_sl_api_RMsg 2 #[(0, v124), (1, v138)]) w137 fun (s140 : Sl) w141 =>
                (S122 w141) ∧
                RunK .sl P (Builtin.append_ #[T_sl_api_RMsg, T_sl_api_RMsg] T_sl_api_RMsg #[s139.v, s140.v]) w141 fun (s142 : Sl) w143 =>
                (S122 w143) ∧
                nilCk x0 fun (a144 : Addr) =>
                StoreP P T_sl_api_RMsg (.pointer (some (a144.add 2))) s142.v w143 fun w145 =>
                (S122 w145) ∧
                R (.tuple #[]) w145) ∧
                (RunK .sl P (Instr.buildSlice T_sl_api_RMsg 2 #[(0, v124), (1, v138)]) w137 fun (s146 : Sl) w147 =>
                (S122 w147) ∧
                RunQ .sl P (Instr.loadAt T_sl_api_RMsg (.pointer (some (a123.add 2)))) w147 fun (s148 : Sl) =>
                (S122 w147) ∧
                RunK .sl P (Builtin.append_ #[T_sl_api_RMsg, T_sl_api_RMsg] T_sl_api_RMsg #[s148.v, s146.v]) w147 fun (s149 : Sl) w150 =>
                (S122 w150) ∧
                nilCk x0 fun (a151 : Addr) =>
                StoreP P T_sl_api_RMsg (.pointer (some (a151.add 2))) s149.v w150 fun w152 =>
                (S122 w152) ∧
                R (.tuple #[]) w152) ∧
                True) ∧
                True)
                (JoinP (T := Unit) (fun J153 =>
                RunQ (.int .i64) P (Instr.loadAt T_int (.pointer (some (Go.Addr.add a0 0)))) w26.drew fun (n156 : Int) =>
                ifB (n156 == 2)
                (R (.tuple #[]) w26.drew)
                (RunQ (.int .i64) P (Instr.loadAt T_int (.pointer (some (Go.Addr.add t25.fst 2)))) w26.drew fun (n157 : Int) =>
                ifB (decide (n157 < 0))
                (R (.tuple #[]) w26.drew)
                (RunQ (.int .i64) P (Instr.loadAt T_int (.pointer (some (Go.Addr.add t25.fst 2)))) w26.drew fun (n158 : Int) =>
                nilCk x0 fun (a159 : Addr) =>
                RunQ .sl P (Instr.loadAt T_sl_p_raft_Raft (.pointer (some (a159.add 0)))) w26.drew fun (s160 : Sl) =>
                ifB (decide (n158 ≥ (↑s160.len : Int)))
                (R (.tuple #[]) w26.drew)
                (J153 (some ()) w26.drew))))
                fun t154 w155 =>
                RunQ (.int .i64) P (Instr.loadAt T_int (.pointer (some (Go.Addr.add t25.fst 2)))) w155 fun (n161 : Int) =>
                ∃ S162 : World → Prop, (S162 w155.drew) ∧
                nilCk x0 fun (a163 : Addr) =>
                HRun S162 .sl P (Instr.loadAt T_sl_p_raft_Raft (.pointer (some (a163.add 0)))) fun (s164 : Sl) =>
                HRun S162 .addr P (Instr.indexAt T_sl_p_raft_Raft s164.v (.int .i64 n161)) fun (a165 : Addr) =>
                HRun S162 .ptr P (Instr.loadAt T_p_raft_Raft (.pointer (some a165))) fun (p166 : Option Addr) =>
                HRun S162 .val P (Instr.loadAt T_api_RMsg (.pointer (some t25.fst))) fun (v167 : Value) =>
                CallP P F_raft_Raft_Step [(.pointer p166), v167] w155.drew fun (v168 : Value) w169 =>
                TupP [] v168 fun (t170 : Unit) =>
                (S162 w169) ∧
                CallP P F_law12_group_take [(.pointer x0), (.int .i64 n161)] w169 fun (v171 : Value) w172 =>
                TupP [] v171 fun (t173 : Unit) =>
                R (.tuple #[]) w172)))
            (ifB (n9 == 2)
             (nilCk x0 fun (a174 : Addr) =>
              RunQ .sl P (Instr.loadAt T_sl_api_RMsg (.pointer (some (a174.add 2)))) w7 fun (s175 : Sl) =>
               ifB ((↑s175.len : Int) == 0)
                (R (.tuple #[]) w7)
                (JoinP (T := Addr × Unit) (fun J176 =>
                ∃ S179 : World → Prop, (S179 w7.drew) ∧
                nilCk x0 fun (a180 : Addr) =>
                (RunQ (.int .i64) P (Instr.loadAt T_int (.pointer (some (Go.Addr.add a0 1)))) w7.drew fun (n181 : Int) =>
                (S179 w7.drew) ∧
                (RunQ .sl P (Instr.loadAt T_sl_api_RMsg (.pointer (some (a180.add 2)))) w7.drew fun (s182 : Sl) =>
                (S179 w7.drew) ∧
                (CallP P F_law12_round [(.int .i64 n181), (.int .i64 ((↑s182.len : Int)))] w7.drew fun (v183 : Value) w184 =>
                TyP (.int .i64) v183 fun (n185 : Int) =>
                (S179 w184) ∧
                (CallP P F_law12_group_out [(.pointer x0), (.int .i64 n185)] w184 fun (v186 : Value) w187 =>
                TyP .val v186 fun (v188 : Value) =>
                (S179 w187) ∧
                RunK .addr P (Instr.alloc T_api_RMsg true (.tuple #[])) w187 fun (a189 : Addr) w190 =>
                (S179 w190) ∧
                StoreP P T_api_RMsg (.pointer (some a189)) v188 w190 fun w191 =>
                (S179 w191) ∧
                J176 (some (a189, ())) w191) ∧
                (RunK .addr P (Instr.alloc T_api_RMsg true (.tuple #[])) w184 fun (a192 : Addr) w193 =>
                (S179 w193) ∧
                CallP P F_law12_group_out [(.pointer x0), (.int .i64 n185)] w193 fun (v194 : Value) w195 =>
                TyP .val v194 fun (v196 : Value) =>
                (S179 w195) ∧
                StoreP P T_api_RMsg (.pointer (some a192)) v196 w195 fun w197 =>
                (S179 w197) ∧
                J176 (some (a192, ())) w197) ∧
                True) ∧
                (RunK .addr P (Instr.alloc T_api_RMsg true (.tuple #[])) w7.drew fun (a198 : Addr) w199 =>
                (S179 w199) ∧
                CallP P F_law12_round [(.int .i64 n181), (.int .i64 ((↑s182.len : Int)))] w199 fun (v200 : Value) w201 =>
                TyP (.int .i64) v200 fun (n202 : Int) =>
                (S179 w201) ∧
                CallP P F_law12_group_out [(.pointer x0), (.int .i64 n202)] w201 fun (v203 : Value) w204 =>
                TyP .val v203 fun (v205 : Value) =>
                (S179 w204) ∧
                StoreP P T_api_RMsg (.pointer (some a198)) v205 w204 fun w206 =>
                (S179 w206) ∧
                J176 (some (a198, ())) w206) ∧
                True) ∧
                (RunK .addr P (Instr.alloc T_api_RMsg true (.tuple #[])) w7.drew fun (a207 : Addr) w208 =>
                (S179 w208) ∧
                RunQ .sl P (Instr.loadAt T_sl_api_RMsg (.pointer (some (a180.add 2)))) w208 fun (s209 : Sl) =>
                (S179 w208) ∧
                CallP P F_law12_round [(.int .i64 n181), (.int .i64 ((↑s209.len : Int)))] w208 fun (v210 : Value) w211 =>
                TyP (.int .i64) v210 fun (n212 : Int) =>
                (S179 w211) ∧
                CallP P F_law12_group_out [(.pointer x0), (.int .i64 n212)] w211 fun (v213 : Value) w214 =>
                TyP .val v213 fun (v215 : Value) =>
                (S179 w214) ∧
                StoreP P T_api_RMsg (.pointer (some a207)) v215 w214 fun w216 =>
                (S179 w216) ∧
                J176 (some (a207, ())) w216) ∧
                True) ∧
                (RunQ .sl P (Instr.loadAt T_sl_api_RMsg (.pointer (some (a180.add 2)))) w7.drew fun (s217 : Sl) =>
                (S179 w7.drew) ∧
                (RunQ (.int .i64) P (Instr.loadAt T_int (.pointer (some (Go.Addr.add a0 1)))) w7.drew fun (n218 : Int) =>
                (S179 w7.drew) ∧
                (CallP P F_law12_round [(.int .i64 n218), (.int .i64 ((↑s217.len : Int)))] w7.drew fun (v219 : Value) w220 =>
                TyP (.int .i64) v219 fun (n221 : Int) =>
                (S179 w220) ∧
                (CallP P F_law12_group_out [(.pointer x0), (.int .i64 n221)] w220 fun (v222 : Value) w223 =>
                TyP .val v222 fun (v224 : Value) =>
                (S179 w223) ∧
                RunK .addr P (Instr.alloc T_api_RMsg true (.tuple #[])) w223 fun (a225 : Addr) w226 =>
                (S179 w226) ∧
                StoreP P T_api_RMsg (.pointer (some a225)) v224 w226 fun w227 =>
                (S179 w227) ∧
                J176 (some (a225, ())) w227) ∧
                (RunK .addr P (Instr.alloc T_api_RMsg true (.tuple #[])) w220 fun (a228 : Addr) w229 =>
                (S179 w229) ∧
                CallP P F_law12_group_out [(.pointer x0), (.int .i64 n221)] w229 fun (v230 : Value) w231 =>
                TyP .val v230 fun (v232 : Value) =>
                (S179 w231) ∧
                StoreP P T_api_RMsg (.pointer (some a228)) v232 w231 fun w233 =>
                (S179 w233) ∧
                J176 (some (a228, ())) w233) ∧
                True) ∧
                (RunK .addr P (Instr.alloc T_api_RMsg true (.tuple #[])) w7.drew fun (a234 : Addr) w235 =>
                (S179 w235) ∧
                CallP P F_law12_round [(.int .i64 n218), (.int .i64 ((↑s217.len : Int)))] w235 fun (v236 : Value) w237 =>
                TyP (.int .i64) v236 fun (n238 : Int) =>
                (S179 w237) ∧
                CallP P F_law12_group_out [(.pointer x0), (.int .i64 n238)] w237 fun (v239 : Value) w240 =>
                TyP .val v239 fun (v241 : Value) =>
                (S179 w240) ∧
                StoreP P T_api_RMsg (.pointer (some a234)) v241 w240 fun w242 =>
                (S179 w242) ∧
                J176 (some (a234, ())) w242) ∧
                True) ∧
                (RunK .addr P (Instr.alloc T_api_RMsg true (.tuple #[])) w7.drew fun (a243 : Addr) w244 =>
                (S179 w244) ∧
                RunQ (.int .i64) P (Instr.loadAt T_int (.pointer (some (Go.Addr.add a0 1)))) w244 fun (n245 : Int) =>
                (S179 w244) ∧
                CallP P F_law12_round [(.int .i64 n245), (.int .i64 ((↑s217.len : Int)))] w244 fun (v246 : Value) w247 =>
                TyP (.int .i64) v246 fun (n248 : Int) =>
                (S179 w247) ∧
                CallP P F_law12_group_out [(.pointer x0), (.int .i64 n248)] w247 fun (v249 : Value) w250 =>
                TyP .val v249 fun (v251 : Value) =>
                (S179 w250) ∧
                StoreP P T_api_RMsg (.pointer (some a243)) v251 w250 fun w252 =>
                (S179 w252) ∧
                J176 (some (a243, ())) w252) ∧
                True) ∧
                (RunK .addr P (Instr.alloc T_api_RMsg true (.tuple #[])) w7.drew fun (a253 : Addr) w254 =>
                (S179 w254) ∧
                (RunQ (.int .i64) P (Instr.loadAt T_int (.pointer (some (Go.Addr.add a0 1)))) w254 fun (n255 : Int) =>
                (S179 w254) ∧
                RunQ .sl P (Instr.loadAt T_sl_api_RMsg (.pointer (some (a180.add 2)))) w254 fun (s256 : Sl) =>
                (S179 w254) ∧
                CallP P F_law12_round [(.int .i64 n255), (.int .i64 ((↑s256.len : Int)))] w254 fun (v257 : Value) w258 =>
                TyP (.int .i64) v257 fun (n259 : Int) =>
                (S179 w258) ∧
                CallP P F_law12_group_out [(.pointer x0), (.int .i64 n259)] w258 fun (v260 : Value) w261 =>
                TyP .val v260 fun (v262 : Value) =>
                (S179 w261) ∧
                StoreP P T_api_RMsg (.pointer (some a253)) v262 w261 fun w263 =>
                (S179 w263) ∧
                J176 (some (a253, ())) w263) ∧
                (RunQ .sl P (Instr.loadAt T_sl_api_RMsg (.pointer (some (a180.add 2)))) w254 fun (s264 : Sl) =>
                (S179 w254) ∧
                RunQ (.int .i64) P (Instr.loadAt T_int (.pointer (some (Go.Addr.add a0 1)))) w254 fun (n265 : Int) =>
                (S179 w254) ∧
                CallP P F_law12_round [(.int .i64 n265), (.int .i64 ((↑s264.len : Int)))] w254 fun (v266 : Value) w267 =>
                TyP (.int .i64) v266 fun (n268 : Int) =>
                (S179 w267) ∧
                CallP P F_law12_group_out [(.pointer x0), (.int .i64 n268)] w267 fun (v269 : Value) w270 =>
                TyP .val v269 fun (v271 : Value) =>
                (S179 w270) ∧
                StoreP P T_api_RMsg (.pointer (some a253)) v271 w270 fun w272 =>
                (S179 w272) ∧
                J176 (some (a253, ())) w272) ∧
                True) ∧
                True)
                fun t177 w178 =>
                RunQ (.int .i64) P (Instr.loadAt T_int (.pointer (some (Go.Addr.add a0 0)))) w178 fun (n273 : Int) =>
                ifB (n273 == 3)
                (∃ S274 : World → Prop, (S274 w178.drew) ∧
                nilCk x0 fun (a275 : Addr) =>
                HRun S274 .val P (Instr.loadAt T_api_RMsg (.pointer (some t177.fst))) fun (v276 : Value) =>
                HRun S274 .val P (Instr.loadAt T_api_RMsg (.pointer (some t177.fst))) fun (v277 : Value) =>
                (RunQ .sl P (Instr.loadAt T_sl_api_RMsg (.pointer (some (a275.add 2)))) w178.drew fun (s278 : Sl) =>
                (S274 w178.drew) ∧
                CallP P F_law12_ownMsg [v277] w178.drew fun (v279 : Value) w280 =>
                TyP .val v279 fun (v281 : Value) =>
                (S274 w280) ∧
                RunK .sl P (Instr.buildSlice T_sl_api_RMsg 2 #[(0, v276), (1, v281)]) w280 fun (s282 : Sl) w283 =>
                (S274 w283) ∧
                RunK .sl P (Builtin.append_ #[T_sl_api_RMsg, T_sl_api_RMsg] T_sl_api_RMsg #[s278.v, s282.v]) w283 fun (s284 : Sl) w285 =>
                (S274 w285) ∧
                nilCk x0 fun (a286 : Addr) =>
                StoreP P T_sl_api_RMsg (.pointer (some (a286.add 2))) s284.v w285 fun w287 =>
                (S274 w287) ∧
                R (.tuple #[]) w287) ∧
                (CallP P F_law12_ownMsg [v277] w178.drew fun (v288 : Value) w289 =>
                TyP .val v288 fun (v290 : Value) =>
                (S274 w289) ∧
                (RunQ .sl P (Instr.loadAt T_sl_api_RMsg (.pointer (some (a275.add 2)))) w289 fun (s291 : Sl) =>
                (S274 w289) ∧
                RunK .sl P (Instr.buildSlice T_sl_api_RMsg 2 #[(0, v276), (1, v290)]) w289 fun (s292 : Sl) w293 =>
                (S274 w293) ∧
                RunK .sl P (Builtin.append_ #[T_sl_api_RMsg, T_sl_api_RMsg] T_sl_api_RMsg #[s291.v, s292.v]) w293 fun (s294 : Sl) w295 =>
                (S274 w295) ∧
                nilCk x0 fun (a296 : Addr) =>
                StoreP P T_sl_api_RMsg (.pointer (some (a296.add 2))) s294.v w295 fun w297 =>
                (S274 w297) ∧
                R (.tuple #[]) w297) ∧
                (RunK .sl P (Instr.buildSlice T_sl_api_RMsg 2 #[(0, v276), (1, v290)]) w289 fun (s298 : Sl) w299 =>
                (S274 w299) ∧
                RunQ .sl P (Instr.loadAt T_sl_api_RMsg (.pointer (some (a275.add 2)))) w299 fun (s300 : Sl) =>
                (S274 w299) ∧
                RunK .sl P (Builtin.append_ #[T_sl_api_RMsg, T_sl_api_RMsg] T_sl_api_RMsg #[s300.v, s298.v]) w299 fun (s301 : Sl) w302 =>
                (S274 w302) ∧
                nilCk x0 fun (a303 : Addr) =>
                StoreP P T_sl_api_RMsg (.pointer (some (a303.add 2))) s301.v w302 fun w304 =>
                (S274 w304) ∧
                R (.tuple #[]) w304) ∧
                True) ∧
                True)
                (JoinP (T := Unit) (fun J305 =>
                RunQ (.int .i64) P (Instr.loadAt T_int (.pointer (some (Go.Addr.add a0 0)))) w178.drew fun (n308 : Int) =>
                ifB (n308 == 2)
                (R (.tuple #[]) w178.drew)
                (RunQ (.int .i64) P (Instr.loadAt T_int (.pointer (some (Go.Addr.add t177.fst 2)))) w178.drew fun (n309 : Int) =>
                ifB (decide (n309 < 0))
                (R (.tuple #[]) w178.drew)
                (RunQ (.int .i64) P (Instr.loadAt T_int (.pointer (some (Go.Addr.add t177.fst 2)))) w178.drew fun (n310 : Int) =>
                nilCk x0 fun (a311 : Addr) =>
                RunQ .sl P (Instr.loadAt T_sl_p_raft_Raft (.pointer (some (a311.add 0)))) w178.drew fun (s312 : Sl) =>
                ifB (decide (n310 ≥ (↑s312.len : Int)))
                (R (.tuple #[]) w178.drew)
                (J305 (some ()) w178.drew))))
                fun t306 w307 =>
                RunQ (.int .i64) P (Instr.loadAt T_int (.pointer (some (Go.Addr.add t177.fst 2)))) w307 fun (n313 : Int) =>
                ∃ S314 : World → Prop, (S314 w307.drew) ∧
                nilCk x0 fun (a315 : Addr) =>
                HRun S314 .sl P (Instr.loadAt T_sl_p_raft_Raft (.pointer (some (a315.add 0)))) fun (s316 : Sl) =>
                HRun S314 .addr P (Instr.indexAt T_sl_p_raft_Raft s316.v (.int .i64 n313)) fun (a317 : Addr) =>
                HRun S314 .ptr P (Instr.loadAt T_p_raft_Raft (.pointer (some a317))) fun (p318 : Option Addr) =>
                HRun S314 .val P (Instr.loadAt T_api_RMsg (.pointer (some t177.fst))) fun (v319 : Value) =>
                CallP P F_raft_Raft_Step [(.pointer p318), v319] w307.drew fun (v320 : Value) w321 =>
                TupP [] v320 fun (t322 : Unit) =>
                (S314 w321) ∧
                CallP P F_law12_group_take [(.pointer x0), (.int .i64 n313)] w321 fun (v323 : Value) w324 =>
                TupP [] v323 fun (t325 : Unit) =>
                R (.tuple #[]) w324)))
             (ifB (n9 == 3)
              (nilCk x0 fun (a326 : Addr) =>
               RunQ .sl P (Instr.loadAt T_sl_api_RMsg (.pointer (some (a326.add 2)))) w7 fun (s327 : Sl) =>
                ifB ((↑s327.len : Int) == 0)
                (R (.tuple #[]) w7)
                (JoinP (T := Addr × Unit) (fun J328 =>
                ∃ S331 : World → Prop, (S331 w7.drew) ∧
                nilCk x0 fun (a332 : Addr) =>
                (RunQ (.int .i64) P (Instr.loadAt T_int (.pointer (some (Go.Addr.add a0 1)))) w7.drew fun (n333 : Int) =>
                (S331 w7.drew) ∧
                (RunQ .sl P (Instr.loadAt T_sl_api_RMsg (.pointer (some (a332.add 2)))) w7.drew fun (s334 : Sl) =>
                (S331 w7.drew) ∧
                (CallP P F_law12_round [(.int .i64 n333), (.int .i64 ((↑s334.len : Int)))] w7.drew fun (v335 : Value) w336 =>
                TyP (.int .i64) v335 fun (n337 : Int) =>
                (S331 w336) ∧
                (CallP P F_law12_group_out [(.pointer x0), (.int .i64 n337)] w336 fun (v338 : Value) w339 =>
                TyP .val v338 fun (v340 : Value) =>
                (S331 w339) ∧
                RunK .addr P (Instr.alloc T_api_RMsg true (.tuple #[])) w339 fun (a341 : Addr) w342 =>
                (S331 w342) ∧
                StoreP P T_api_RMsg (.pointer (some a341)) v340 w342 fun w343 =>
                (S331 w343) ∧
                J328 (some (a341, ())) w343) ∧
                (RunK .addr P (Instr.alloc T_api_RMsg true (.tuple #[])) w336 fun (a344 : Addr) w345 =>
                (S331 w345) ∧
                CallP P F_law12_group_out [(.pointer x0), (.int .i64 n337)] w345 fun (v346 : Value) w347 =>
                TyP .val v346 fun (v348 : Value) =>
                (S331 w347) ∧
                StoreP P T_api_RMsg (.pointer (some a344)) v348 w347 fun w349 =>
                (S331 w349) ∧
                J328 (some (a344, ())) w349) ∧
                True) ∧
                (RunK .addr P (Instr.alloc T_api_RMsg true (.tuple #[])) w7.drew fun (a350 : Addr) w351 =>
                (S331 w351) ∧
                CallP P F_law12_round [(.int .i64 n333), (.int .i64 ((↑s334.len : Int)))] w351 fun (v352 : Value) w353 =>
                TyP (.int .i64) v352 fun (n354 : Int) =>
                (S331 w353) ∧
                CallP P F_law12_group_out [(.pointer x0), (.int .i64 n354)] w353 fun (v355 : Value) w356 =>
                TyP .val v355 fun (v357 : Value) =>
                (S331 w356) ∧
                StoreP P T_api_RMsg (.pointer (some a350)) v357 w356 fun w358 =>
                (S331 w358) ∧
                J328 (some (a350, ())) w358) ∧
                True) ∧
                (RunK .addr P (Instr.alloc T_api_RMsg true (.tuple #[])) w7.drew fun (a359 : Addr) w360 =>
                (S331 w360) ∧
                RunQ .sl P (Instr.loadAt T_sl_api_RMsg (.pointer (some (a332.add 2)))) w360 fun (s361 : Sl) =>
                (S331 w360) ∧
                CallP P F_law12_round [(.int .i64 n333), (.int .i64 ((↑s361.len : Int)))] w360 fun (v362 : Value) w363 =>
                TyP (.int .i64) v362 fun (n364 : Int) =>
                (S331 w363) ∧
                CallP P F_law12_group_out [(.pointer x0), (.int .i64 n364)] w363 fun (v365 : Value) w366 =>
                TyP .val v365 fun (v367 : Value) =>
                (S331 w366) ∧
                StoreP P T_api_RMsg (.pointer (some a359)) v367 w366 fun w368 =>
                (S331 w368) ∧
                J328 (some (a359, ())) w368) ∧
                True) ∧
                (RunQ .sl P (Instr.loadAt T_sl_api_RMsg (.pointer (some (a332.add 2)))) w7.drew fun (s369 : Sl) =>
                (S331 w7.drew) ∧
                (RunQ (.int .i64) P (Instr.loadAt T_int (.pointer (some (Go.Addr.add a0 1)))) w7.drew fun (n370 : Int) =>
                (S331 w7.drew) ∧
                (CallP P F_law12_round [(.int .i64 n370), (.int .i64 ((↑s369.len : Int)))] w7.drew fun (v371 : Value) w372 =>
                TyP (.int .i64) v371 fun (n373 : Int) =>
                (S331 w372) ∧
                (CallP P F_law12_group_out [(.pointer x0), (.int .i64 n373)] w372 fun (v374 : Value) w375 =>
                TyP .val v374 fun (v376 : Value) =>
                (S331 w375) ∧
                RunK .addr P (Instr.alloc T_api_RMsg true (.tuple #[])) w375 fun (a377 : Addr) w378 =>
                (S331 w378) ∧
                StoreP P T_api_RMsg (.pointer (some a377)) v376 w378 fun w379 =>
                (S331 w379) ∧
                J328 (some (a377, ())) w379) ∧
                (RunK .addr P (Instr.alloc T_api_RMsg true (.tuple #[])) w372 fun (a380 : Addr) w381 =>
                (S331 w381) ∧
                CallP P F_law12_group_out [(.pointer x0), (.int .i64 n373)] w381 fun (v382 : Value) w383 =>
                TyP .val v382 fun (v384 : Value) =>
                (S331 w383) ∧
                StoreP P T_api_RMsg (.pointer (some a380)) v384 w383 fun w385 =>
                (S331 w385) ∧
                J328 (some (a380, ())) w385) ∧
                True) ∧
                (RunK .addr P (Instr.alloc T_api_RMsg true (.tuple #[])) w7.drew fun (a386 : Addr) w387 =>
                (S331 w387) ∧
                CallP P F_law12_round [(.int .i64 n370), (.int .i64 ((↑s369.len : Int)))] w387 fun (v388 : Value) w389 =>
                TyP (.int .i64) v388 fun (n390 : Int) =>
                (S331 w389) ∧
                CallP P F_law12_group_out [(.pointer x0), (.int .i64 n390)] w389 fun (v391 : Value) w392 =>
                TyP .val v391 fun (v393 : Value) =>
                (S331 w392) ∧
                StoreP P T_api_RMsg (.pointer (some a386)) v393 w392 fun w394 =>
                (S331 w394) ∧
                J328 (some (a386, ())) w394) ∧
                True) ∧
                (RunK .addr P (Instr.alloc T_api_RMsg true (.tuple #[])) w7.drew fun (a395 : Addr) w396 =>
                (S331 w396) ∧
                RunQ (.int .i64) P (Instr.loadAt T_int (.pointer (some (Go.Addr.add a0 1)))) w396 fun (n397 : Int) =>
                (S331 w396) ∧
                CallP P F_law12_round [(.int .i64 n397), (.int .i64 ((↑s369.len : Int)))] w396 fun (v398 : Value) w399 =>
                TyP (.int .i64) v398 fun (n400 : Int) =>
                (S331 w399) ∧
                CallP P F_law12_group_out [(.pointer x0), (.int .i64 n400)] w399 fun (v401 : Value) w402 =>
                TyP .val v401 fun (v403 : Value) =>
                (S331 w402) ∧
                StoreP P T_api_RMsg (.pointer (some a395)) v403 w402 fun w404 =>
                (S331 w404) ∧
                J328 (some (a395, ())) w404) ∧
                True) ∧
                (RunK .addr P (Instr.alloc T_api_RMsg true (.tuple #[])) w7.drew fun (a405 : Addr) w406 =>
                (S331 w406) ∧
                (RunQ (.int .i64) P (Instr.loadAt T_int (.pointer (some (Go.Addr.add a0 1)))) w406 fun (n407 : Int) =>
                (S331 w406) ∧
                RunQ .sl P (Instr.loadAt T_sl_api_RMsg (.pointer (some (a332.add 2)))) w406 fun (s408 : Sl) =>
                (S331 w406) ∧
                CallP P F_law12_round [(.int .i64 n407), (.int .i64 ((↑s408.len : Int)))] w406 fun (v409 : Value) w410 =>
                TyP (.int .i64) v409 fun (n411 : Int) =>
                (S331 w410) ∧
                CallP P F_law12_group_out [(.pointer x0), (.int .i64 n411)] w410 fun (v412 : Value) w413 =>
                TyP .val v412 fun (v414 : Value) =>
                (S331 w413) ∧
                StoreP P T_api_RMsg (.pointer (some a405)) v414 w413 fun w415 =>
                (S331 w415) ∧
                J328 (some (a405, ())) w415) ∧
                (RunQ .sl P (Instr.loadAt T_sl_api_RMsg (.pointer (some (a332.add 2)))) w406 fun (s416 : Sl) =>
                (S331 w406) ∧
                RunQ (.int .i64) P (Instr.loadAt T_int (.pointer (some (Go.Addr.add a0 1)))) w406 fun (n417 : Int) =>
                (S331 w406) ∧
                CallP P F_law12_round [(.int .i64 n417), (.int .i64 ((↑s416.len : Int)))] w406 fun (v418 : Value) w419 =>
                TyP (.int .i64) v418 fun (n420 : Int) =>
                (S331 w419) ∧
                CallP P F_law12_group_out [(.pointer x0), (.int .i64 n420)] w419 fun (v421 : Value) w422 =>
                TyP .val v421 fun (v423 : Value) =>
                (S331 w422) ∧
                StoreP P T_api_RMsg (.pointer (some a405)) v423 w422 fun w424 =>
                (S331 w424) ∧
                J328 (some (a405, ())) w424) ∧
                True) ∧
                True)
                fun t329 w330 =>
                RunQ (.int .i64) P (Instr.loadAt T_int (.pointer (some (Go.Addr.add a0 0)))) w330 fun (n425 : Int) =>
                ifB (n425 == 3)
                (∃ S426 : World → Prop, (S426 w330.drew) ∧
                nilCk x0 fun (a427 : Addr) =>
                HRun S426 .val P (Instr.loadAt T_api_RMsg (.pointer (some t329.fst))) fun (v428 : Value) =>
                HRun S426 .val P (Instr.loadAt T_api_RMsg (.pointer (some t329.fst))) fun (v429 : Value) =>
                (RunQ .sl P (Instr.loadAt T_sl_api_RMsg (.pointer (some (a427.add 2)))) w330.drew fun (s430 : Sl) =>
                (S426 w330.drew) ∧
                CallP P F_law12_ownMsg [v429] w330.drew fun (v431 : Value) w432 =>
                TyP .val v431 fun (v433 : Value) =>
                (S426 w432) ∧
                RunK .sl P (Instr.buildSlice T_sl_api_RMsg 2 #[(0, v428), (1, v433)]) w432 fun (s434 : Sl) w435 =>
                (S426 w435) ∧
                RunK .sl P (Builtin.append_ #[T_sl_api_RMsg, T_sl_api_RMsg] T_sl_api_RMsg #[s430.v, s434.v]) w435 fun (s436 : Sl) w437 =>
                (S426 w437) ∧
                nilCk x0 fun (a438 : Addr) =>
                StoreP P T_sl_api_RMsg (.pointer (some (a438.add 2))) s436.v w437 fun w439 =>
                (S426 w439) ∧
                R (.tuple #[]) w439) ∧
                (CallP P F_law12_ownMsg [v429] w330.drew fun (v440 : Value) w441 =>
                TyP .val v440 fun (v442 : Value) =>
                (S426 w441) ∧
                (RunQ .sl P (Instr.loadAt T_sl_api_RMsg (.pointer (some (a427.add 2)))) w441 fun (s443 : Sl) =>
                (S426 w441) ∧
                RunK .sl P (Instr.buildSlice T_sl_api_RMsg 2 #[(0, v428), (1, v442)]) w441 fun (s444 : Sl) w445 =>
                (S426 w445) ∧
                RunK .sl P (Builtin.append_ #[T_sl_api_RMsg, T_sl_api_RMsg] T_sl_api_RMsg #[s443.v, s444.v]) w445 fun (s446 : Sl) w447 =>
                (S426 w447) ∧
                nilCk x0 fun (a448 : Addr) =>
                StoreP P T_sl_api_RMsg (.pointer (some (a448.add 2))) s446.v w447 fun w449 =>
                (S426 w449) ∧
                R (.tuple #[]) w449) ∧
                (RunK .sl P (Instr.buildSlice T_sl_api_RMsg 2 #[(0, v428), (1, v442)]) w441 fun (s450 : Sl) w451 =>
                (S426 w451) ∧
                RunQ .sl P (Instr.loadAt T_sl_api_RMsg (.pointer (some (a427.add 2)))) w451 fun (s452 : Sl) =>
                (S426 w451) ∧
                RunK .sl P (Builtin.append_ #[T_sl_api_RMsg, T_sl_api_RMsg] T_sl_api_RMsg #[s452.v, s450.v]) w451 fun (s453 : Sl) w454 =>
                (S426 w454) ∧
                nilCk x0 fun (a455 : Addr) =>
                StoreP P T_sl_api_RMsg (.pointer (some (a455.add 2))) s453.v w454 fun w456 =>
                (S426 w456) ∧
                R (.tuple #[]) w456) ∧
                True) ∧
                True)
                (JoinP (T := Unit) (fun J457 =>
                RunQ (.int .i64) P (Instr.loadAt T_int (.pointer (some (Go.Addr.add a0 0)))) w330.drew fun (n460 : Int) =>
                ifB (n460 == 2)
                (R (.tuple #[]) w330.drew)
                (RunQ (.int .i64) P (Instr.loadAt T_int (.pointer (some (Go.Addr.add t329.fst 2)))) w330.drew fun (n461 : Int) =>
                ifB (decide (n461 < 0))
                (R (.tuple #[]) w330.drew)
                (RunQ (.int .i64) P (Instr.loadAt T_int (.pointer (some (Go.Addr.add t329.fst 2)))) w330.drew fun (n462 : Int) =>
                nilCk x0 fun (a463 : Addr) =>
                RunQ .sl P (Instr.loadAt T_sl_p_raft_Raft (.pointer (some (a463.add 0)))) w330.drew fun (s464 : Sl) =>
                ifB (decide (n462 ≥ (↑s464.len : Int)))
                (R (.tuple #[]) w330.drew)
                (J457 (some ()) w330.drew))))
                fun t458 w459 =>
                RunQ (.int .i64) P (Instr.loadAt T_int (.pointer (some (Go.Addr.add t329.fst 2)))) w459 fun (n465 : Int) =>
                ∃ S466 : World → Prop, (S466 w459.drew) ∧
                nilCk x0 fun (a467 : Addr) =>
                HRun S466 .sl P (Instr.loadAt T_sl_p_raft_Raft (.pointer (some (a467.add 0)))) fun (s468 : Sl) =>
                HRun S466 .addr P (Instr.indexAt T_sl_p_raft_Raft s468.v (.int .i64 n465)) fun (a469 : Addr) =>
                HRun S466 .ptr P (Instr.loadAt T_p_raft_Raft (.pointer (some a469))) fun (p470 : Option Addr) =>
                HRun S466 .val P (Instr.loadAt T_api_RMsg (.pointer (some t329.fst))) fun (v471 : Value) =>
                CallP P F_raft_Raft_Step [(.pointer p470), v471] w459.drew fun (v472 : Value) w473 =>
                TupP [] v472 fun (t474 : Unit) =>
                (S466 w473) ∧
                CallP P F_law12_group_take [(.pointer x0), (.int .i64 n465)] w473 fun (v475 : Value) w476 =>
                TupP [] v475 fun (t477 : Unit) =>
                R (.tuple #[]) w476)))
              (ifB (n9 == 4)
               (∃ S478 : World → Prop, (S478 w7.drew) ∧
                nilCk x0 fun (a479 : Addr) =>
                HRun S478 .sl P (Instr.loadAt T_sl_p_raft_Raft (.pointer (some (a479.add 0)))) fun (s480 : Sl) =>
                HRun S478 .addr P (Instr.indexAt T_sl_p_raft_Raft s480.v (.int .i64 n8)) fun (a481 : Addr) =>
                HRun S478 .ptr P (Instr.loadAt T_p_raft_Raft (.pointer (some a481))) fun (p482 : Option Addr) =>
                HRun S478 .sl P (Instr.loadAt T_sl_uint8 (.pointer (some (Go.Addr.add a0 3)))) fun (s483 : Sl) =>
                CallP P F_raft_Raft_Propose [(.pointer p482), s483.v] w7.drew fun (v484 : Value) w485 =>
                TupP [(.int .i64), (.int .i64)] v484 fun (t486 : Int × Int × Unit) =>
                (S478 w485) ∧
                CallP P F_law12_group_take [(.pointer x0), (.int .i64 n8)] w485 fun (v487 : Value) w488 =>
                TupP [] v487 fun (t489 : Unit) =>
                R (.tuple #[]) w488)
               (ifB (n9 == 5)
                (∃ S490 : World → Prop, (S490 w7.drew) ∧
                nilCk x0 fun (a491 : Addr) =>
                HRun S490 .sl P (Instr.loadAt T_sl_p_raft_Raft (.pointer (some (a491.add 0)))) fun (s492 : Sl) =>
                nilCk x0 fun (a493 : Addr) =>
                HRun S490 .sl P (Instr.loadAt T_sl_api_Hard (.pointer (some (a493.add 1)))) fun (s494 : Sl) =>
                HRun S490 .addr P (Instr.indexAt T_sl_api_Hard s494.v (.int .i64 n8)) fun (a495 : Addr) =>
                HRun S490 .val P (Instr.loadAt T_api_Hard (.pointer (some a495))) fun (v496 : Value) =>
                CallP P F_ref12_Copy [v496] w7.drew fun (v497 : Value) w498 =>
                TyP .val v497 fun (v499 : Value) =>
                (S490 w498) ∧
                CallP P F_raft_New [(.int .i64 n8), (.int .i64 ((↑s492.len : Int))), v499] w498 fun (v500 : Value) w501 =>
                TupP [.ptr, (.int .i64)] v500 fun (t502 : Option Addr × Int × Unit) =>
                (S490 w501) ∧
                ifB (Option.isNone t502.fst)
                (nilCk x0 fun (a503 : Addr) =>
                StoreP P T_bool (.pointer (some (a503.add 6))) (.bool true) w501 fun w504 =>
                R (.tuple #[]) w504)
                (nilCk x0 fun (a505 : Addr) =>
                RunQ .sl P (Instr.loadAt T_sl_p_raft_Raft (.pointer (some (a505.add 0)))) w501 fun (s506 : Sl) =>
                RunQ .addr P (Instr.indexAt T_sl_p_raft_Raft s506.v (.int .i64 n8)) w501 fun (a507 : Addr) =>
                StoreP P T_p_raft_Raft (.pointer (some a507)) (.pointer t502.fst) w501 fun w508 =>
                nilCk x0 fun (a509 : Addr) =>
                RunQ .sl P (Instr.loadAt T_sl_int (.pointer (some (a509.add 5)))) w508 fun (s510 : Sl) =>
                RunQ .addr P (Instr.indexAt T_sl_int s510.v (.int .i64 n8)) w508 fun (a511 : Addr) =>
                StoreP P T_int (.pointer (some a511)) (.int .i64 0) w508 fun w512 =>
                CallP P F_law12_group_take [(.pointer x0), (.int .i64 n8)] w512 fun (v513 : Value) w514 =>
                TupP [] v513 fun (t515 : Unit) =>
                R (.tuple #[]) w514))
                (ifB (n9 == 6)
                (RunQ .sl P (Instr.loadAt T_sl_uint8 (.pointer (some (Go.Addr.add a0 3)))) w7 fun (s516 : Sl) =>
                ifB (decide ((↑s516.len : Int) < 100))
                (nilCk x0 fun (a517 : Addr) =>
                RunQ .sl P (Instr.loadAt T_sl_int (.pointer (some (a517.add 5)))) w7 fun (s518 : Sl) =>
                RunQ .addr P (Instr.indexAt T_sl_int s518.v (.int .i64 n8)) w7 fun (a519 : Addr) =>
                RunQ (.int .i64) P (Instr.loadAt T_int (.pointer (some a519))) w7 fun (n520 : Int) =>
                ifB (decide (n520 > 0))
                (∃ S521 : World → Prop, (S521 w7.drew) ∧
                nilCk x0 fun (a522 : Addr) =>
                HRun S521 .sl P (Instr.loadAt T_sl_p_raft_Raft (.pointer (some (a522.add 0)))) fun (s523 : Sl) =>
                HRun S521 .addr P (Instr.indexAt T_sl_p_raft_Raft s523.v (.int .i64 n8)) fun (a524 : Addr) =>
                HRun S521 .ptr P (Instr.loadAt T_p_raft_Raft (.pointer (some a524))) fun (p525 : Option Addr) =>
                nilCk x0 fun (a526 : Addr) =>
                HRun S521 .sl P (Instr.loadAt T_sl_int (.pointer (some (a526.add 5)))) fun (s527 : Sl) =>
                HRun S521 .addr P (Instr.indexAt T_sl_int s527.v (.int .i64 n8)) fun (a528 : Addr) =>
                HRun S521 (.int .i64) P (Instr.loadAt T_int (.pointer (some a528))) fun (n529 : Int) =>
                HRun S521 .sl P (Instr.loadAt T_sl_uint8 (.pointer (some (Go.Addr.add a0 3)))) fun (s530 : Sl) =>
                CallP P F_raft_Raft_Compact [(.pointer p525), (.int .i64 n529), s530.v] w7.drew fun (v531 : Value) w532 =>
                TyP (.int .i64) v531 fun (n533 : Int) =>
                (S521 w532) ∧
                CallP P F_law12_group_take [(.pointer x0), (.int .i64 n8)] w532 fun (v534 : Value) w535 =>
                TupP [] v534 fun (t536 : Unit) =>
                R (.tuple #[]) w535)
                (CallP P F_law12_group_take [(.pointer x0), (.int .i64 n8)] w7 fun (v537 : Value) w538 =>
                TupP [] v537 fun (t539 : Unit) =>
                R (.tuple #[]) w538))
                (CallP P F_law12_group_take [(.pointer x0), (.int .i64 n8)] w7 fun (v540 : Value) w541 =>
                TupP [] v540 fun (t542 : Unit) =>
                R (.tuple #[]) w541))
                (CallP P F_law12_group_take [(.pointer x0), (.int .i64 n8)] w7 fun (v543 : Value) w544 =>
                TupP [] v543 fun (t545 : Unit) =>
                R (.tuple #[]) w544)))))))
def an_law12_group_act : Ann := ⟨[(13, []), (10, [(5, .addr)])], [], [2009, 11]⟩
theorem e_law12_group_act (R : Value → World → Prop) (x0 : Option Addr) (x1 : Value) (w : World) : denF P an_law12_group_act Try.f17 [.pointer x0, x1] w R = S_law12_group_act R x0 x1 w := by kernel_rfl
theorem c_law12_group_act {R : Value → World → Prop} {x0 : Option Addr} {x1 : Value} {w : World} (h : S_law12_group_act R x0 x1 w) : CallP P F_law12_group_act [.pointer x0, x1] w R := calls_of_denF (an := an_law12_group_act) Try.func17 (by rw [e_law12_group_act]; exact h)


/-- (*penstock/penstocklaw12.group).rounds -/
def S_law12_group_rounds (R : Value → World → Prop) (x0 : Option Addr) (x1 : Int) (x2 : Int) (w : World) : Prop :=
 LoopP (T := Int × Unit) (some (0, ())) w fun next0 t1 w2 =>
 ifB (decide (t1.fst < x1))
  (nilCk x0 fun (a3 : Addr) =>
   RunQ .sl P (Instr.loadAt T_sl_api_RMsg (.pointer (some (a3.add 2)))) w2 fun (s4 : Sl) =>
    LoopP (T := Int × Unit) (some (((↑s4.len : Int)), ())) w2 fun next5 t6 w7 =>
     ifB (decide (t6.fst > 0))
      (CallP P F_law12_group_act [(.pointer x0), (.agg #[(.int .i64 1), (.int .i64 0), (.int .i64 0), (.slice none 0 0)])] w7 fun (v8 : Value) w9 =>
       TupP [] v8 fun (t10 : Unit) =>
        next5 (some ((IntKind.i64.wrap (t6.fst - 1)), ())) w9)
      (LoopP (T := Int × Unit) (some (0, ())) w7 fun next11 t12 w13 =>
       ifB (decide (t12.fst < x2))
        (CallP P F_law12_group_act [(.pointer x0), (.agg #[(.int .i64 0), (.int .i64 t12.fst), (.int .i64 (IntKind.i64.wrap (t12.fst + t1.fst))), (.slice none 0 0)])] w13 fun (v14 : Value) w15 =>
         TupP [] v14 fun (t16 : Unit) =>
          next11 (some ((IntKind.i64.wrap (t12.fst + 1)), ())) w15)
        (next0 (some ((IntKind.i64.wrap (t1.fst + 1)), ())) w13)))
  (R (.tuple #[]) w2)
def an_law12_group_rounds : Ann := ⟨[], [(4, [(7, (.int .i64))]), (8, [(8, (.int .i64))]), (1, [(6, (.int .i64))])], []⟩
theorem e_law12_group_rounds (R : Value → World → Prop) (x0 : Option Addr) (x1 : Int) (x2 : Int) (w : World) : denF P an_law12_group_rounds Try.f18 [.pointer x0, .int .i64 x1, .int .i64 x2] w R = S_law12_group_rounds R x0 x1 x2 w := by kernel_rfl
theorem c_law12_group_rounds {R : Value → World → Prop} {x0 : Option Addr} {x1 : Int} {x2 : Int} {w : World} (h : S_law12_group_rounds R x0 x1 x2 w) : CallP P F_law12_group_rounds [.pointer x0, .int .i64 x1, .int .i64 x2] w R := calls_of_denF (an := an_law12_group_rounds) Try.func18 (by rw [e_law12_group_rounds]; exact h)


/-- (*penstock/penstocklaw12.group).take -/
def S_law12_group_take (R : Value → World → Prop) (x0 : Option Addr) (x1 : Int) (w : World) : Prop :=
 nilCk x0 fun (a0 : Addr) =>
 RunQ .sl P (Instr.loadAt T_sl_p_raft_Raft (.pointer (some (a0.add 0)))) w fun (s1 : Sl) =>
  RunQ .addr P (Instr.indexAt T_sl_p_raft_Raft s1.v (.int .i64 x1)) w fun (a2 : Addr) =>
   RunQ .ptr P (Instr.loadAt T_p_raft_Raft (.pointer (some a2))) w fun (p3 : Option Addr) =>
    CallP P F_raft_Raft_Take [(.pointer p3)] w fun (v4 : Value) w5 =>
     TyP .val v4 fun (v6 : Value) =>
      RunK .addr P (Instr.alloc T_api_Ready true (.tuple #[])) w5 fun (a7 : Addr) w8 =>
       StoreP P T_api_Ready (.pointer (some a7)) v6 w8 fun w9 =>
        JoinP (T := Unit) (fun J10 =>
         RunQ .bool P (Instr.loadAt T_bool (.pointer (some (Go.Addr.add a7 0)))) w9 fun (b13 : Bool) =>
          ifB b13
           (∃ S14 : World → Prop, (S14 w9.drew) ∧
             nilCk x0 fun (a15 : Addr) =>
              HRun S14 .sl P (Instr.loadAt T_sl_api_Hard (.pointer (some (a15.add 1)))) fun (s16 : Sl) =>
               HRun S14 .val P (Instr.loadAt T_api_Hard (.pointer (some (Go.Addr.add a7 1)))) fun (v17 : Value) =>
                HRun S14 .addr P (Instr.indexAt T_sl_api_Hard s16.v (.int .i64 x1)) fun (a18 : Addr) =>
                StoreP P T_api_Hard (.pointer (some a18)) v17 w9.drew fun w19 =>
                (S14 w19) ∧
                J10 (some ()) w19)
           (J10 (some ()) w9))
         fun t11 w12 =>
         JoinP (T := Unit) (fun J20 =>
          RunQ .bool P (Instr.loadAt T_bool (.pointer (some (Go.Addr.add a7 8)))) w12 fun (b23 : Bool) =>
           ifB b23
            (∃ S24 : World → Prop, (S24 w12.drew) ∧
              nilCk x0 fun (a25 : Addr) =>
               HRun S24 .sl P (Instr.loadAt T_sl_int (.pointer (some (a25.add 5)))) fun (s26 : Sl) =>
                nilCk x0 fun (a27 : Addr) =>
                HRun S24 .sl P (Instr.loadAt T_sl_api_Hard (.pointer (some (a27.add 1)))) fun (s28 : Sl) =>
                HRun S24 .addr P (Instr.indexAt T_sl_api_Hard s28.v (.int .i64 x1)) fun (a29 : Addr) =>
                HRun S24 (.int .i64) P (Instr.loadAt T_int (.pointer (some (Go.Addr.add a29 2)))) fun (n30 : Int) =>
                HRun S24 .addr P (Instr.indexAt T_sl_int s26.v (.int .i64 x1)) fun (a31 : Addr) =>
                StoreP P T_int (.pointer (some a31)) (.int .i64 n30) w12.drew fun w32 =>
                (S24 w32) ∧
                J20 (some ()) w32)
            (J20 (some ()) w12))
          fun t21 w22 =>
          RunQ .sl P (Instr.loadAt T_sl_api_Commit (.pointer (some (Go.Addr.add a7 10)))) w22 fun (s33 : Sl) =>
           LoopP (T := Int × Unit) (some (0, ())) w22 fun next34 t35 w36 =>
            ifB (decide (t35.fst < (↑s33.len : Int)))
             (RunQ .addr P (Instr.indexAt T_sl_api_Commit s33.v (.int .i64 t35.fst)) w36 fun (a37 : Addr) =>
              RunQ .val P (Instr.loadAt T_api_Commit (.pointer (some a37))) w36 fun (v38 : Value) =>
               RunK .addr P (Instr.alloc T_api_Commit true (.tuple #[])) w36 fun (a39 : Addr) w40 =>
                StoreP P T_api_Commit (.pointer (some a39)) v38 w40 fun w41 =>
                JoinP (T := Unit) (fun J42 =>
                RunQ (.int .i64) P (Instr.loadAt T_int (.pointer (some (Go.Addr.add a39 0)))) w41.drew fun (n45 : Int) =>
                nilCk x0 fun (a46 : Addr) =>
                RunQ .sl P (Instr.loadAt T_sl_int (.pointer (some (a46.add 5)))) w41.drew fun (s47 : Sl) =>
                RunQ .addr P (Instr.indexAt T_sl_int s47.v (.int .i64 x1)) w41.drew fun (a48 : Addr) =>
                RunQ (.int .i64) P (Instr.loadAt T_int (.pointer (some a48))) w41.drew fun (n49 : Int) =>
                ifB (n45 != IntKind.i64.wrap (n49 + 1))
                (nilCk x0 fun (a50 : Addr) =>
                StoreP P T_bool (.pointer (some (a50.add 6))) (.bool true) w41.drew fun w51 =>
                J42 (some ()) w51)
                (J42 (some ()) w41.drew))
                fun t43 w44 =>
                ∃ S52 : World → Prop, (S52 w44.drew) ∧
                nilCk x0 fun (a53 : Addr) =>
                HRun S52 .sl P (Instr.loadAt T_sl_int (.pointer (some (a53.add 5)))) fun (s54 : Sl) =>
                HRun S52 (.int .i64) P (Instr.loadAt T_int (.pointer (some (Go.Addr.add a39 0)))) fun (n55 : Int) =>
                HRun S52 .addr P (Instr.indexAt T_sl_int s54.v (.int .i64 x1)) fun (a56 : Addr) =>
                StoreP P T_int (.pointer (some a56)) (.int .i64 n55) w44.drew fun w57 =>
                (S52 w57) ∧
                RunQ .val P (Instr.loadAt T_api_Commit (.pointer (some a39))) w57 fun (v58 : Value) =>
                CallP P F_law12_group_tell [(.pointer x0), v58] w57 fun (v59 : Value) w60 =>
                TupP [] v59 fun (t61 : Unit) =>
                next34 (some ((IntKind.i64.wrap (t35.fst + 1)), ())) w60)
             (JoinP (T := Unit) (fun J62 =>
              nilCk x0 fun (a65 : Addr) =>
               RunQ .sl P (Instr.loadAt T_sl_api_RMsg (.pointer (some (a65.add 2)))) w36 fun (s66 : Sl) =>
                ifB (decide ((↑s66.len : Int) < 400))
                (∃ S67 : World → Prop, (S67 w36.drew) ∧
                nilCk x0 fun (a68 : Addr) =>
                HRun S67 .sl P (Instr.loadAt T_sl_api_RMsg (.pointer (some (Go.Addr.add a7 7)))) fun (s69 : Sl) =>
                RunQ .sl P (Instr.loadAt T_sl_api_RMsg (.pointer (some (a68.add 2)))) w36.drew fun (s70 : Sl) =>
                (S67 w36.drew) ∧
                RunK .sl P (Builtin.append_ #[T_sl_api_RMsg, T_sl_api_RMsg] T_sl_api_RMsg #[s70.v, s69.v]) w36.drew fun (s71 : Sl) w72 =>
                (S67 w72) ∧
                nilCk x0 fun (a73 : Addr) =>
                StoreP P T_sl_api_RMsg (.pointer (some (a73.add 2))) s71.v w72 fun w74 =>
                (S67 w74) ∧
                J62 (some ()) w74)
                (J62 (some ()) w36))
              fun t63 w64 =>
              nilCk x0 fun (a75 : Addr) =>
               RunQ .sl P (Instr.loadAt T_sl_p_raft_Raft (.pointer (some (a75.add 0)))) w64 fun (s76 : Sl) =>
                RunQ .addr P (Instr.indexAt T_sl_p_raft_Raft s76.v (.int .i64 x1)) w64 fun (a77 : Addr) =>
                RunQ .ptr P (Instr.loadAt T_p_raft_Raft (.pointer (some a77))) w64 fun (p78 : Option Addr) =>
                CallP P F_raft_Raft_State [(.pointer p78)] w64 fun (v79 : Value) w80 =>
                TupP [(.int .i64), (.int .i64), (.int .i64), (.int .i64), (.int .i64)] v79 fun (t81 : Int × Int × Int × Int × Int × Unit) =>
                ifB (t81.fst == 3)
                (ifB (decide (t81.snd.fst ≥ 0))
                (ifB (decide (t81.snd.fst < 4000))
                (LoopP (T := Unit) (some ()) w80 fun next82 t83 w84 =>
                nilCk x0 fun (a85 : Addr) =>
                RunQ .sl P (Instr.loadAt T_sl_int (.pointer (some (a85.add 4)))) w84 fun (s86 : Sl) =>
                ifB (decide ((↑s86.len : Int) ≤ t81.snd.fst))
                (nilCk x0 fun (a87 : Addr) =>
                RunQ .sl P (Instr.loadAt T_sl_int (.pointer (some (a87.add 4)))) w84 fun (s88 : Sl) =>
                RunK .sl P (Instr.buildSlice T_sl_int 1 #[(0, (.int .i64 (-1)))]) w84 fun (s89 : Sl) w90 =>
                RunK .sl P (Builtin.append_ #[T_sl_int, T_sl_int] T_sl_int #[s88.v, s89.v]) w90 fun (s91 : Sl) w92 =>
                nilCk x0 fun (a93 : Addr) =>
                StoreP P T_sl_int (.pointer (some (a93.add 4))) s91.v w92 fun w94 =>
                next82 (some ()) w94)
                (JoinP (T := Unit) (fun J95 =>
                nilCk x0 fun (a98 : Addr) =>
                RunQ .bool P (Instr.loadAt T_bool (.pointer (some (a98.add 6)))) w84 fun (b99 : Bool) =>
                ifB b99
                (nilCk x0 fun (a100 : Addr) =>
                StoreP P T_bool (.pointer (some (a100.add 6))) (.bool true) w84 fun w101 =>
                J95 (some ()) w101)
                (nilCk x0 fun (a102 : Addr) =>
                RunQ .sl P (Instr.loadAt T_sl_int (.pointer (some (a102.add 4)))) w84 fun (s103 : Sl) =>
                RunQ .addr P (Instr.indexAt T_sl_int s103.v (.int .i64 t81.snd.fst)) w84 fun (a104 : Addr) =>
                RunQ (.int .i64) P (Instr.loadAt T_int (.pointer (some a104))) w84 fun (n105 : Int) =>
                ifB (decide (n105 ≥ 0))
                (nilCk x0 fun (a106 : Addr) =>
                RunQ .sl P (Instr.loadAt T_sl_int (.pointer (some (a106.add 4)))) w84 fun (s107 : Sl) =>
                RunQ .addr P (Instr.indexAt T_sl_int s107.v (.int .i64 t81.snd.fst)) w84 fun (a108 : Addr) =>
                RunQ (.int .i64) P (Instr.loadAt T_int (.pointer (some a108))) w84 fun (n109 : Int) =>
                nilCk x0 fun (a110 : Addr) =>
                StoreP P T_bool (.pointer (some (a110.add 6))) (.bool (n109 != x1)) w84 fun w111 =>
                J95 (some ()) w111)
                (nilCk x0 fun (a112 : Addr) =>
                StoreP P T_bool (.pointer (some (a112.add 6))) (.bool false) w84 fun w113 =>
                J95 (some ()) w113)))
                fun t96 w97 =>
                nilCk x0 fun (a114 : Addr) =>
                RunQ .sl P (Instr.loadAt T_sl_int (.pointer (some (a114.add 4)))) w97 fun (s115 : Sl) =>
                RunQ .addr P (Instr.indexAt T_sl_int s115.v (.int .i64 t81.snd.fst)) w97 fun (a116 : Addr) =>
                StoreP P T_int (.pointer (some a116)) (.int .i64 x1) w97 fun w117 =>
                R (.tuple #[]) w117))
                (R (.tuple #[]) w80))
                (R (.tuple #[]) w80))
                (R (.tuple #[]) w80))
def an_law12_group_take : Ann := ⟨[(10, []), (20, []), (15, []), (5, []), (3, [])], [(6, [(49, (.int .i64))]), (17, [])], [14]⟩
theorem e_law12_group_take (R : Value → World → Prop) (x0 : Option Addr) (x1 : Int) (w : World) : denF P an_law12_group_take Try.f19 [.pointer x0, .int .i64 x1] w R = S_law12_group_take R x0 x1 w := by kernel_rfl
theorem c_law12_group_take {R : Value → World → Prop} {x0 : Option Addr} {x1 : Int} {w : World} (h : S_law12_group_take R x0 x1 w) : CallP P F_law12_group_take [.pointer x0, .int .i64 x1] w R := calls_of_denF (an := an_law12_group_take) Try.func19 (by rw [e_law12_group_take]; exact h)


/-- penstock/penstocklaw12.round -/
def S_law12_round (R : Value → World → Prop) (x0 : Int) (x1 : Int) (w : World) : Prop :=
 RunK (.int .i64) P (do (eqGuard .rem T_int (.tmp 0) (.tmp 0) (.int .i64 x0) (.int .i64 x1)); (binOp .rem T_int (.int .i64 x0) (.int .i64 x1))) w fun (n0 : Int) w1 =>
 RunK (.int .i64) P (do (eqGuard .rem T_int (.tmp 0) (.tmp 0) (.int .i64 (IntKind.i64.wrap (n0 + x1))) (.int .i64 x1)); (binOp .rem T_int (.int .i64 (IntKind.i64.wrap (n0 + x1))) (.int .i64 x1))) w1 fun (n2 : Int) w3 =>
  R (.int .i64 n2) w3
def an_law12_round : Ann := ⟨[], [], []⟩
theorem e_law12_round (R : Value → World → Prop) (x0 : Int) (x1 : Int) (w : World) : denF P an_law12_round Try.f30 [.int .i64 x0, .int .i64 x1] w R = S_law12_round R x0 x1 w := by kernel_rfl
theorem c_law12_round {R : Value → World → Prop} {x0 : Int} {x1 : Int} {w : World} (h : S_law12_round R x0 x1 w) : CallP P F_law12_round [.int .i64 x0, .int .i64 x1] w R := calls_of_denF (an := an_law12_round) Try.func30 (by rw [e_law12_round]; exact h)


/-- (*penstock/penstocklaw12.group).out -/
def S_law12_group_out (R : Value → World → Prop) (x0 : Option Addr) (x1 : Int) (w : World) : Prop :=
 RunK .addr P (Instr.alloc T_api_RMsg true (.tuple #[])) w fun (a0 : Addr) w1 =>
 nilCk x0 fun (a2 : Addr) =>
  RunQ .sl P (Instr.loadAt T_sl_api_RMsg (.pointer (some (a2.add 2)))) w1 fun (s3 : Sl) =>
   RunQ .addr P (Instr.indexAt T_sl_api_RMsg s3.v (.int .i64 x1)) w1 fun (a4 : Addr) =>
    RunQ .val P (Instr.loadAt T_api_RMsg (.pointer (some a4))) w1 fun (v5 : Value) =>
     RunK .addr P (Instr.alloc T_api_RMsg true (.tuple #[])) w1 fun (a6 : Addr) w7 =>
      StoreP P T_api_RMsg (.pointer (some a6)) v5 w7 fun w8 =>
       nilCk x0 fun (a9 : Addr) =>
        RunQ .sl P (Instr.loadAt T_sl_api_RMsg (.pointer (some (a9.add 2)))) w8 fun (s10 : Sl) =>
         RunQ .sl P (Instr.sliceAt T_sl_api_RMsg s10.v none (some (.int .i64 x1)) none) w8 fun (s11 : Sl) =>
          RunK .sl P (Builtin.append_ #[T_sl_api_RMsg, T_sl_api_RMsg] T_sl_api_RMsg #[(.slice none 0 0), s11.v]) w8 fun (s12 : Sl) w13 =>
           nilCk x0 fun (a14 : Addr) =>
            RunQ .sl P (Instr.loadAt T_sl_api_RMsg (.pointer (some (a14.add 2)))) w13 fun (s15 : Sl) =>
             RunQ .sl P (Instr.sliceAt T_sl_api_RMsg s15.v (some (.int .i64 (IntKind.i64.wrap (x1 + 1)))) none none) w13 fun (s16 : Sl) =>
              RunK .sl P (Builtin.append_ #[T_sl_api_RMsg, T_sl_api_RMsg] T_sl_api_RMsg #[s12.v, s16.v]) w13 fun (s17 : Sl) w18 =>
               nilCk x0 fun (a19 : Addr) =>
                StoreP P T_sl_api_RMsg (.pointer (some (a19.add 2))) s17.v w18 fun w20 =>
                RunQ .val P (Instr.loadAt T_api_RMsg (.pointer (some a6))) w20 fun (v21 : Value) =>
                StoreP P T_api_RMsg (.pointer (some a0)) v21 w20 fun w22 =>
                LoadK .val P T_api_RMsg (.pointer (some a0)) w22 fun (v23 : Value) =>
                R v23 w22
def an_law12_group_out : Ann := ⟨[], [], []⟩
theorem e_law12_group_out (R : Value → World → Prop) (x0 : Option Addr) (x1 : Int) (w : World) : denF P an_law12_group_out Try.f31 [.pointer x0, .int .i64 x1] w R = S_law12_group_out R x0 x1 w := by kernel_rfl
theorem c_law12_group_out {R : Value → World → Prop} {x0 : Option Addr} {x1 : Int} {w : World} (h : S_law12_group_out R x0 x1 w) : CallP P F_law12_group_out [.pointer x0, .int .i64 x1] w R := calls_of_denF (an := an_law12_group_out) Try.func31 (by rw [e_law12_group_out]; exact h)


/-- penstock/penstocklaw12.ownMsg -/
def S_law12_ownMsg (R : Value → World → Prop) (x0 : Value) (w : World) : Prop :=
 RunK .addr P (Instr.box T_api_RMsg x0) w fun (a0 : Addr) w1 =>
 RunK .addr P (Instr.alloc T_api_RMsg true (.tuple #[])) w1 fun (a2 : Addr) w3 =>
  RunQ .sl P (Instr.loadAt T_sl_api_Entry (.pointer (some (Go.Addr.add a0 8)))) w3 fun (s4 : Sl) =>
   RunQ .sl P (Instr.loadAt T_sl_uint8 (.pointer (some (Go.Addr.add a0 9)))) w3 fun (s5 : Sl) =>
    CallP P F_ref12_Copy [(.agg #[(.int .i64 0), (.int .i64 0), (.int .i64 0), (.int .i64 0), s5.v, s4.v])] w3 fun (v6 : Value) w7 =>
     TyP .val v6 fun (v8 : Value) =>
      RunK .addr P (Instr.alloc T_api_Hard true (.tuple #[])) w7 fun (a9 : Addr) w10 =>
       StoreP P T_api_Hard (.pointer (some a9)) v8 w10 fun w11 =>
        RunQ .sl P (Instr.loadAt T_sl_api_Entry (.pointer (some (Go.Addr.add a9 5)))) w11 fun (s12 : Sl) =>
         StoreP P T_sl_api_Entry (.pointer (some (Go.Addr.add a0 8))) s12.v w11 fun w13 =>
          RunQ .sl P (Instr.loadAt T_sl_uint8 (.pointer (some (Go.Addr.add a9 4)))) w13 fun (s14 : Sl) =>
           StoreP P T_sl_uint8 (.pointer (some (Go.Addr.add a0 9))) s14.v w13 fun w15 =>
            RunQ .val P (Instr.loadAt T_api_RMsg (.pointer (some a0))) w15 fun (v16 : Value) =>
             StoreP P T_api_RMsg (.pointer (some a2)) v16 w15 fun w17 =>
              LoadK .val P T_api_RMsg (.pointer (some a2)) w17 fun (v18 : Value) =>
               R v18 w17
def an_law12_ownMsg : Ann := ⟨[], [], []⟩
theorem e_law12_ownMsg (R : Value → World → Prop) (x0 : Value) (w : World) : denF P an_law12_ownMsg Try.f32 [x0] w R = S_law12_ownMsg R x0 w := by kernel_rfl
theorem c_law12_ownMsg {R : Value → World → Prop} {x0 : Value} {w : World} (h : S_law12_ownMsg R x0 w) : CallP P F_law12_ownMsg [x0] w R := calls_of_denF (an := an_law12_ownMsg) Try.func32 (by rw [e_law12_ownMsg]; exact h)


/-- (*penstock/penstocklaw12.group).tell -/
def S_law12_group_tell (R : Value → World → Prop) (x0 : Option Addr) (x1 : Value) (w : World) : Prop :=
 RunK .addr P (Instr.box T_api_Commit x1) w fun (a0 : Addr) w1 =>
 LoopP (T := Unit) (some ()) w1 fun next2 t3 w4 =>
  nilCk x0 fun (a5 : Addr) =>
   RunQ .sl P (Instr.loadAt T_sl_api_Commit (.pointer (some (a5.add 3)))) w4.drew fun (s6 : Sl) =>
    RunQ (.int .i64) P (Instr.loadAt T_int (.pointer (some (Go.Addr.add a0 0)))) w4.drew fun (n7 : Int) =>
     ifB (decide ((↑s6.len : Int) < n7))
      (nilCk x0 fun (a8 : Addr) =>
       RunQ .sl P (Instr.loadAt T_sl_api_Commit (.pointer (some (a8.add 3)))) w4.drew fun (s9 : Sl) =>
        RunK .sl P (Instr.buildSlice T_sl_api_Commit 1 #[(0, (.agg #[(.int .i64 0), (.slice none 0 0)]))]) w4.drew fun (s10 : Sl) w11 =>
         RunK .sl P (Builtin.append_ #[T_sl_api_Commit, T_sl_api_Commit] T_sl_api_Commit #[s9.v, s10.v]) w11 fun (s12 : Sl) w13 =>
          nilCk x0 fun (a14 : Addr) =>
           StoreP P T_sl_api_Commit (.pointer (some (a14.add 3))) s12.v w13 fun w15 =>
            next2 (some ()) w15)
      (JoinP (T := Unit) (fun J16 =>
       ∃ S19 : World → Prop, (S19 w4.drew.drew) ∧
         HRun S19 (.int .i64) P (Instr.loadAt T_int (.pointer (some (Go.Addr.add a0 0)))) fun (n20 : Int) =>
          ifB (decide (n20 < 1))
           (nilCk x0 fun (a21 : Addr) =>
            StoreP P T_bool (.pointer (some (a21.add 6))) (.bool true) w4.drew.drew fun w22 =>
             R (.tuple #[]) w22)
           (nilCk x0 fun (a23 : Addr) =>
            HRun S19 .sl P (Instr.loadAt T_sl_api_Commit (.pointer (some (a23.add 3)))) fun (s24 : Sl) =>
             HRun S19 (.int .i64) P (Instr.loadAt T_int (.pointer (some (Go.Addr.add a0 0)))) fun (n25 : Int) =>
              HRun S19 .addr P (Instr.indexAt T_sl_api_Commit s24.v (.int .i64 (IntKind.i64.wrap (n25 - 1)))) fun (a26 : Addr) =>
               HRun S19 (.int .i64) P (Instr.loadAt T_int (.pointer (some (Go.Addr.add a26 0)))) fun (n27 : Int) =>
                ifB (n27 != 0)
                (nilCk x0 fun (a28 : Addr) =>
                HRun S19 .sl P (Instr.loadAt T_sl_api_Commit (.pointer (some (a28.add 3)))) fun (s29 : Sl) =>
                HRun S19 (.int .i64) P (Instr.loadAt T_int (.pointer (some (Go.Addr.add a0 0)))) fun (n30 : Int) =>
                HRun S19 .addr P (Instr.indexAt T_sl_api_Commit s29.v (.int .i64 (IntKind.i64.wrap (n30 - 1)))) fun (a31 : Addr) =>
                HRun S19 .sl P (Instr.loadAt T_sl_uint8 (.pointer (some (Go.Addr.add a31 1)))) fun (s32 : Sl) =>
                HRun S19 .sl P (Instr.loadAt T_sl_uint8 (.pointer (some (Go.Addr.add a0 1)))) fun (s33 : Sl) =>
                CallP P F_ref03_Same [s32.v, s33.v] w4.drew.drew fun (v34 : Value) w35 =>
                TyP .bool v34 fun (b36 : Bool) =>
                (S19 w35) ∧
                ifB (!b36)
                (nilCk x0 fun (a37 : Addr) =>
                StoreP P T_bool (.pointer (some (a37.add 6))) (.bool true) w35 fun w38 =>
                R (.tuple #[]) w38)
                (J16 (some ()) w35))
                (J16 (some ()) w4.drew.drew)))
       fun t17 w18 =>
       ∃ S39 : World → Prop, (S39 w18.drew) ∧
         nilCk x0 fun (a40 : Addr) =>
          HRun S39 .sl P (Instr.loadAt T_sl_api_Commit (.pointer (some (a40.add 3)))) fun (s41 : Sl) =>
           HRun S39 (.int .i64) P (Instr.loadAt T_int (.pointer (some (Go.Addr.add a0 0)))) fun (n42 : Int) =>
            HRun S39 .val P (Instr.loadAt T_api_Commit (.pointer (some a0))) fun (v43 : Value) =>
             HRun S39 .addr P (Instr.indexAt T_sl_api_Commit s41.v (.int .i64 (IntKind.i64.wrap (n42 - 1)))) fun (a44 : Addr) =>
              StoreP P T_api_Commit (.pointer (some a44)) v43 w18.drew fun w45 =>
               (S39 w45) ∧
                R (.tuple #[]) w45)
def an_law12_group_tell : Ann := ⟨[(5, [])], [(1, [])], []⟩
theorem e_law12_group_tell (R : Value → World → Prop) (x0 : Option Addr) (x1 : Value) (w : World) : denF P an_law12_group_tell Try.f33 [.pointer x0, x1] w R = S_law12_group_tell R x0 x1 w := by kernel_rfl
theorem c_law12_group_tell {R : Value → World → Prop} {x0 : Option Addr} {x1 : Value} {w : World} (h : S_law12_group_tell R x0 x1 w) : CallP P F_law12_group_tell [.pointer x0, x1] w R := calls_of_denF (an := an_law12_group_tell) Try.func33 (by rw [e_law12_group_tell]; exact h)

end Go.Proofs.Ytfbffgcoopelfaa
