/- The functions of the program as predicates over worlds, written by a program of mine (PkPrint); each is held against the code by the kernel. -/
import Derived.Test.YtajhdjjmhfbhgaaN
namespace Go.Proofs.Ytajhdjjmhfbhgaa
open Go Go.Pk
/-- penstock/penstocklaw19.ClientLearns -/
def S_law19_ClientLearns (R : Value → World → Prop) (x0 : Sl) (x1 : Bool) (x2 : Bool) (x3 : Bool) (x4 : Int) (w : World) : Prop :=
 JoinP (T := Unit) (fun J0 =>
 CallP P F_law19_awake [] w fun (v3 : Value) w4 =>
  TyP .bool v3 fun (b5 : Bool) =>
   ifB (!b5)
    (CallP P F_law19_awake [] w4 fun (v6 : Value) w7 =>
     TyP .bool v6 fun (b8 : Bool) =>
      R (.bool b8) w7)
    (ifB ((↑x0.len : Int) == 0)
     (CallP P F_law19_awake [] w4 fun (v9 : Value) w10 =>
      TyP .bool v9 fun (b11 : Bool) =>
       R (.bool b11) w10)
     (ifB (decide ((↑x0.len : Int) > 20))
      (CallP P F_law19_awake [] w4 fun (v12 : Value) w13 =>
       TyP .bool v12 fun (b14 : Bool) =>
        R (.bool b14) w13)
      (J0 (some ()) w4))))
 fun t1 w2 =>
 LoopP (T := Sl × Int × Unit) (some (⟨none, 0, 0⟩, (0, ()))) w2 fun next15 t16 w17 =>
  ifB (decide (t16.snd.fst < (↑x0.len : Int)))
   (RunQ .addr P (Instr.indexAt T_sl_string x0.v (.int .i64 t16.snd.fst)) w17 fun (a18 : Addr) =>
    RunQ .str P (Instr.loadAt T_string (.pointer (some a18))) w17 fun (t19 : ByteArray) =>
     RunQ .str P (Instr.sliceAt T_string (.string t19) none (some (.int .i64 (if 64 < (↑(ByteArray.size t19) : Int) then 64 else (↑(ByteArray.size t19) : Int)))) none) w17 fun (t20 : ByteArray) =>
      RunK .sl P (Instr.buildSlice T_sl_api_Op 1 #[(0, (.agg #[(.int .i64 1), (.int .i64 0), (.int .i64 0), (.int .i64 0), (.string t20)]))]) w17 fun (s21 : Sl) w22 =>
       RunK .sl P (Builtin.append_ #[T_sl_api_Op, T_sl_api_Op] T_sl_api_Op #[t16.fst.v, s21.v]) w22 fun (s23 : Sl) w24 =>
        next15 (some (s23, ((IntKind.i64.wrap (t16.snd.fst + 1)), ()))) w24)
   (JoinP (T := Int × Unit) (fun J25 =>
    ifB x1
     (J25 (some (2, ())) w17)
     (J25 (some (3, ())) w17))
    fun t26 w27 =>
    RunK .sl P (Instr.buildSlice T_sl_api_Op 1 #[(0, (.agg #[(.int .i64 t26.fst), (.int .i64 0), (.int .i64 0), (.int .i64 0), (.string (ByteArray.mk #[]))]))]) w27 fun (s28 : Sl) w29 =>
     RunK .sl P (Builtin.append_ #[T_sl_api_Op, T_sl_api_Op] T_sl_api_Op #[t16.fst.v, s28.v]) w29 fun (s30 : Sl) w31 =>
      CallP P F_law19_one [s30.v] w31 fun (v32 : Value) w33 =>
       TyP .val v32 fun (v34 : Value) =>
        CallP P F_law19_begin [v34, (.int .u8 0)] w33 fun (v35 : Value) w36 =>
         TyP .ptr v35 fun (p37 : Option Addr) =>
          ifB (Option.isNone p37)
           (R (.bool false) w36)
           (RunK .addr P (Instr.box T_penstocklaw19_server (.agg #[s30.v, (.int .u64 7), (.int .i64 (IntKind.i64.wrap (2 * IntKind.i64.wrap (Int.tmod x4 100)))), (.bool x1), (.int .i64 0), (.int .i64 0), (.bool false), (.bool false), (.int .i64 0), (.int .i64 0), (.bool false)])) w36 fun (a38 : Addr) w39 =>
            CallP P F_law19_hold_writes [(.pointer p37), (.pointer (some a38))] w39 fun (v40 : Value) w41 =>
             TyP .bool v40 fun (b42 : Bool) =>
              ifB (!b42)
               (R (.bool false) w41)
               (nilCk p37 fun (a43 : Addr) =>
                RunQ .ptr P (Instr.loadAt T_p_client_Client (.pointer (some (a43.add 5)))) w41 fun (p44 : Option Addr) =>
                CallP P F_client_Client_Again [(.pointer p44)] w41 fun (v45 : Value) w46 =>
                TupP [] v45 fun (t47 : Unit) =>
                nilCk p37 fun (a48 : Addr) =>
                RunQ .ptr P (Instr.loadAt T_p_client_Client (.pointer (some (a48.add 5)))) w46 fun (p49 : Option Addr) =>
                CallP P F_client_Client_Tick [(.pointer p49)] w46 fun (v50 : Value) w51 =>
                TyP .sl v50 fun (s52 : Sl) =>
                JoinP (T := Unit) (fun J53 =>
                ifB ((↑s52.len : Int) != 1)
                (R (.bool false) w51)
                (RunQ .addr P (Instr.indexAt T_sl_api_Msg s52.v (.int .i64 0)) w51 fun (a56 : Addr) =>
                RunQ (.int .i64) P (Instr.loadAt T_int (.pointer (some (Go.Addr.add a56 0)))) w51 fun (n57 : Int) =>
                ifB (n57 != 7)
                (R (.bool false) w51)
                (RunQ .addr P (Instr.indexAt T_sl_api_Msg s52.v (.int .i64 0)) w51 fun (a58 : Addr) =>
                RunQ (.int .i64) P (Instr.loadAt T_int (.pointer (some (Go.Addr.add a58 48)))) w51 fun (n59 : Int) =>
                ifB (n59 != 1)
                (R (.bool false) w51)
                (J53 (some ()) w51))))
                fun t54 w55 =>
                ∃ S60 : World → Prop, (S60 w55.drew) ∧
                HRun S60 .addr P (Instr.indexAt T_sl_api_Msg s52.v (.int .i64 0)) fun (a61 : Addr) =>
                HRun S60 (.int .i64) P (Instr.loadAt T_int (.pointer (some (Go.Addr.add a61 3)))) fun (n62 : Int) =>
                HRun S60 (.int .i64) P (Instr.loadAt T_int (.pointer (some (Go.Addr.add a38 2)))) fun (n63 : Int) =>
                HRun S60 (.int .i64) P (Instr.loadAt T_int (.pointer (some (Go.Addr.add a38 2)))) fun (n64 : Int) =>
                RunK .addr P (Instr.alloc T_api_Msg true (.tuple #[])) w55.drew fun (a65 : Addr) w66 =>
                (S60 w66) ∧
                StoreP P T_api_Msg (.pointer (some a65)) (.agg #[(.int .i64 15), (.int .i64 0), (.int .i64 0), (.int .i64 n62), (.int .i64 0), (.int .i64 0), (.int .i64 0), (.int .i64 0), (.int .i64 0), (.int .i64 0), (.int .i64 0), (.int .i64 0), (.bool false), (.slice none 0 0), (.slice none 0 0), (.int .i64 0), (.int .i64 0), (.int .i64 0), (.int .i64 0), (.int .i64 0), (.int .i64 0), (.int .i64 0), (.int .i64 0), (.int .i64 0), (.bool false), (.int .i64 0), (.int .i64 0), (.int .i64 0), (.int .i64 0), (.slice none 0 0), (.int .i64 0), (.int .i64 0), (.int .i64 0), (.int .i64 0), (.int .i64 0), (.slice none 0 0), (.int .i64 0), (.int .i64 0), (.int .u64 0), (.int .i64 0), (.int .i64 0), (.bool false), (.bool false), (.bool false), (.slice none 0 0), (.int .i64 0), (.int .i64 n64), (.int .i64 0), (.int .i64 1), (.int .u64 7), (.int .i64 (IntKind.i64.wrap (n63 + 2))), (.bool x2), (.int .i64 0), (.int .i64 0), (.int .i64 0), (.slice none 0 0), (.slice none 0 0), (.slice none 0 0), (.int .i64 7)]) w66 fun w67 =>
                (S60 w67) ∧
                JoinP (T := Unit) (fun J68 =>
                ifB (!x3)
                (RunQ (.int .i64) P (Instr.loadAt T_int (.pointer (some (Go.Addr.add a38 2)))) w67 fun (n71 : Int) =>
                StoreP P T_int (.pointer (some (Go.Addr.add a65 46))) (.int .i64 (IntKind.i64.wrap (n71 - 2))) w67 fun w72 =>
                J68 (some ()) w72)
                (J68 (some ()) w67))
                fun t69 w70 =>
                ∃ S73 : World → Prop, (S73 w70.drew) ∧
                nilCk p37 fun (a74 : Addr) =>
                HRun S73 .ptr P (Instr.loadAt T_p_client_Client (.pointer (some (a74.add 5)))) fun (p75 : Option Addr) =>
                HRun S73 .val P (Instr.loadAt T_api_Msg (.pointer (some a65))) fun (v76 : Value) =>
                CallP P F_client_Client_Handle [(.pointer p75), v76] w70.drew fun (v77 : Value) w78 =>
                TyP .sl v77 fun (s79 : Sl) =>
                (S73 w78) ∧
                JoinP (T := Sl × Unit) (fun J80 =>
                ifB ((↑s79.len : Int) == 0)
                (nilCk p37 fun (a83 : Addr) =>
                RunQ .ptr P (Instr.loadAt T_p_client_Client (.pointer (some (a83.add 5)))) w78 fun (p84 : Option Addr) =>
                CallP P F_client_Client_Tick [(.pointer p84)] w78 fun (v85 : Value) w86 =>
                TyP .sl v85 fun (s87 : Sl) =>
                J80 (some (s87, ())) w86)
                (J80 (some (s79, ())) w78))
                fun t81 w82 =>
                nilCk p37 fun (a88 : Addr) =>
                RunQ .ptr P (Instr.loadAt T_p_client_Client (.pointer (some (a88.add 5)))) w82 fun (p89 : Option Addr) =>
                CallP P F_client_Client_Trace [(.pointer p89)] w82 fun (v90 : Value) w91 =>
                TyP .sl v90 fun (s92 : Sl) =>
                JoinP (T := Int × Unit) (fun J93 =>
                ifB x3
                (ifB (x2 == x1)
                (ifB x1
                (J93 (some (2, ())) w91)
                (J93 (some (3, ())) w91))
                (J93 (some (4, ())) w91))
                (J93 (some (4, ())) w91))
                fun t94 w95 =>
                JoinP (T := Unit) (fun J96 =>
                ifB (decide ((↑s92.len : Int) ≤ (↑x0.len : Int)))
                (R (.bool false) w95)
                (RunQ .addr P (Instr.indexAt T_sl_api_Seen s92.v (.int .i64 ((↑x0.len : Int)))) w95 fun (a99 : Addr) =>
                RunQ (.int .i64) P (Instr.loadAt T_int (.pointer (some (Go.Addr.add a99 0)))) w95 fun (n100 : Int) =>
                ifB (n100 != t94.fst)
                (R (.bool false) w95)
                (RunQ .addr P (Instr.indexAt T_sl_api_Seen s92.v (.int .i64 ((↑x0.len : Int)))) w95 fun (a101 : Addr) =>
                RunQ (.int .i64) P (Instr.loadAt T_int (.pointer (some (Go.Addr.add a101 2)))) w95 fun (n102 : Int) =>
                ifB (n102 != (↑x0.len : Int))
                (R (.bool false) w95)
                (J96 (some ()) w95))))
                fun t97 w98 =>
                ifB (t94.fst == 4)
                (nilCk p37 fun (a103 : Addr) =>
                RunQ .ptr P (Instr.loadAt T_p_client_Client (.pointer (some (a103.add 5)))) w98 fun (p104 : Option Addr) =>
                CallP P F_client_Client_State [(.pointer p104)] w98 fun (v105 : Value) w106 =>
                TupP [(.int .i64), (.int .i64), .bool] v105 fun (t107 : Int × Int × Bool × Unit) =>
                ifB (!t107.snd.snd.fst)
                (ifB (t107.fst == 0)
                (ifB ((↑t81.fst.len : Int) == 1)
                (RunQ .addr P (Instr.indexAt T_sl_api_Msg t81.fst.v (.int .i64 0)) w106.drew fun (a108 : Addr) =>
                RunQ (.int .i64) P (Instr.loadAt T_int (.pointer (some (Go.Addr.add a108 0)))) w106.drew fun (n109 : Int) =>
                ifB (n109 == 8)
                (RunQ .addr P (Instr.indexAt T_sl_api_Msg t81.fst.v (.int .i64 0)) w106.drew fun (a110 : Addr) =>
                RunQ (.int .i64) P (Instr.loadAt T_int (.pointer (some (Go.Addr.add a110 50)))) w106.drew fun (n111 : Int) =>
                RunQ (.int .i64) P (Instr.loadAt T_int (.pointer (some (Go.Addr.add a38 2)))) w106.drew fun (n112 : Int) =>
                R (.bool (n111 == IntKind.i64.wrap (n112 + 2))) w106.drew)
                (R (.bool false) w106.drew))
                (R (.bool false) w106.drew))
                (R (.bool false) w106.drew))
                (R (.bool false) w106.drew))
                (R (.bool ((↑t81.fst.len : Int) == 0)) w98))))
def an_law19_ClientLearns : Ann := ⟨[(37, []), (35, [(20, (.int .i64))]), (29, [(17, .sl)]), (26, []), (23, []), (12, [(14, (.int .i64))]), (3, [])], [(5, [(11, .sl), (39, (.int .i64))])], []⟩
theorem e_law19_ClientLearns (R : Value → World → Prop) (x0 : Sl) (x1 : Bool) (x2 : Bool) (x3 : Bool) (x4 : Int) (w : World) : denF P an_law19_ClientLearns Try.f7 [x0.v, .bool x1, .bool x2, .bool x3, .int .u8 x4] w R = S_law19_ClientLearns R x0 x1 x2 x3 x4 w := by kernel_rfl
theorem c_law19_ClientLearns {R : Value → World → Prop} {x0 : Sl} {x1 : Bool} {x2 : Bool} {x3 : Bool} {x4 : Int} {w : World} (h : S_law19_ClientLearns R x0 x1 x2 x3 x4 w) : CallP P F_law19_ClientLearns [x0.v, .bool x1, .bool x2, .bool x3, .int .u8 x4] w R := calls_of_denF (an := an_law19_ClientLearns) Try.func7 (by rw [e_law19_ClientLearns]; exact h)


/-- (*penstock/penstocklaw19.hold).writes -/
def S_law19_hold_writes (R : Value → World → Prop) (x0 : Option Addr) (x1 : Option Addr) (w : World) : Prop :=
 nilCk x0 fun (a0 : Addr) =>
 RunQ .ptr P (Instr.loadAt T_p_client_Client (.pointer (some (a0.add 5)))) w fun (p1 : Option Addr) =>
  CallP P F_client_Client_Tick [(.pointer p1)] w fun (v2 : Value) w3 =>
   TyP .sl v2 fun (s4 : Sl) =>
    LoopP (T := Sl × Int × Unit) (some (s4, (0, ()))) w3 fun next5 t6 w7 =>
     ifB (decide (t6.snd.fst < 200))
      (ifB ((↑t6.fst.len : Int) == 0)
       (nilCk x0 fun (a8 : Addr) =>
        RunQ .ptr P (Instr.loadAt T_p_client_Client (.pointer (some (a8.add 5)))) w7 fun (p9 : Option Addr) =>
         CallP P F_client_Client_Tick [(.pointer p9)] w7 fun (v10 : Value) w11 =>
          TyP .sl v10 fun (s12 : Sl) =>
           next5 (some (s12, ((IntKind.i64.wrap (t6.snd.fst + 1)), ()))) w11)
       (RunQ .addr P (Instr.indexAt T_sl_api_Msg t6.fst.v (.int .i64 0)) w7 fun (a13 : Addr) =>
        RunQ .val P (Instr.loadAt T_api_Msg (.pointer (some a13))) w7 fun (v14 : Value) =>
         CallP P F_law19_server_answerAll [(.pointer x1), v14] w7 fun (v15 : Value) w16 =>
          TupP [.val, .bool] v15 fun (t17 : Value × Bool × Unit) =>
           RunK .addr P (Instr.alloc T_api_Msg true (.tuple #[])) w16 fun (a18 : Addr) w19 =>
            StoreP P T_api_Msg (.pointer (some a18)) t17.1 w19 fun w20 =>
             JoinP (T := Unit) (fun J21 =>
              ifB (!t17.snd.fst)
               (R (.bool t17.snd.fst) w20)
               (nilCk x1 fun (a24 : Addr) =>
                RunQ .bool P (Instr.loadAt T_bool (.pointer (some (a24.add 10)))) w20 fun (b25 : Bool) =>
                ifB b25
                (R (.bool t17.snd.fst) w20)
                (J21 (some ()) w20)))
              fun t22 w23 =>
              ∃ S26 : World → Prop, (S26 w23.drew) ∧
                nilCk x0 fun (a27 : Addr) =>
                HRun S26 .ptr P (Instr.loadAt T_p_client_Client (.pointer (some (a27.add 5)))) fun (p28 : Option Addr) =>
                HRun S26 .val P (Instr.loadAt T_api_Msg (.pointer (some a18))) fun (v29 : Value) =>
                CallP P F_client_Client_Handle [(.pointer p28), v29] w23.drew fun (v30 : Value) w31 =>
                TyP .sl v30 fun (s32 : Sl) =>
                (S26 w31) ∧
                next5 (some (s32, ((IntKind.i64.wrap (t6.snd.fst + 1)), ()))) w31))
      (R (.bool false) w7)
def an_law19_hold_writes : Ann := ⟨[(10, [])], [(3, [(5, .sl), (6, (.int .i64))])], []⟩
theorem e_law19_hold_writes (R : Value → World → Prop) (x0 : Option Addr) (x1 : Option Addr) (w : World) : denF P an_law19_hold_writes Try.f28 [.pointer x0, .pointer x1] w R = S_law19_hold_writes R x0 x1 w := by kernel_rfl
theorem c_law19_hold_writes {R : Value → World → Prop} {x0 : Option Addr} {x1 : Option Addr} {w : World} (h : S_law19_hold_writes R x0 x1 w) : CallP P F_law19_hold_writes [.pointer x0, .pointer x1] w R := calls_of_denF (an := an_law19_hold_writes) Try.func28 (by rw [e_law19_hold_writes]; exact h)


/-- (*penstock/penstocklaw19.server).answerAll -/
def S_law19_server_answerAll (R : Value → World → Prop) (x0 : Option Addr) (x1 : Value) (w : World) : Prop :=
 RunK .addr P (Instr.box T_api_Msg x1) w fun (a0 : Addr) w1 =>
 RunK .addr P (Instr.alloc T_api_Msg true (.tuple #[])) w1 fun (a2 : Addr) w3 =>
  RunQ (.int .i64) P (Instr.loadAt T_int (.pointer (some (Go.Addr.add a0 0)))) w3 fun (n4 : Int) =>
   ifB (n4 != 5)
    (RunQ .val P (Instr.loadAt T_api_Msg (.pointer (some a0))) w3 fun (v5 : Value) =>
     CallP P F_law19_server_answer [(.pointer x0), v5] w3 fun (v6 : Value) w7 =>
      TupP [.val, .bool] v6 fun (t8 : Value × Bool × Unit) =>
       StoreP P T_api_Msg (.pointer (some a2)) t8.1 w7 fun w9 =>
        LoadK .val P T_api_Msg (.pointer (some a2)) w9 fun (v10 : Value) =>
         R (.tuple #[v10, (.bool t8.snd.fst)]) w9)
    (RunQ .val P (Instr.loadAt T_api_Batch (.pointer (some (Go.Addr.add a0 36)))) w3 fun (v11 : Value) =>
     RunK .addr P (Instr.alloc T_api_Batch true (.tuple #[])) w3 fun (a12 : Addr) w13 =>
      StoreP P T_api_Batch (.pointer (some a12)) v11 w13 fun w14 =>
       ∃ S15 : World → Prop, (S15 w14.drew) ∧
         HRun S15 (.int .i64) P (Instr.loadAt T_int (.pointer (some (Go.Addr.add a0 3)))) fun (n16 : Int) =>
          HRun S15 (.int .i64) P (Instr.loadAt T_int (.pointer (some (Go.Addr.add a0 47)))) fun (n17 : Int) =>
           HRun S15 (.int .i64) P (Instr.loadAt T_int (.pointer (some (Go.Addr.add a0 48)))) fun (n18 : Int) =>
            nilCk x0 fun (a19 : Addr) =>
             HRun S15 (.int .i64) P (Instr.loadAt T_int (.pointer (some (a19.add 8)))) fun (n20 : Int) =>
              RunK .addr P (Instr.alloc T_api_Msg true (.tuple #[])) w14.drew fun (a21 : Addr) w22 =>
               (S15 w22) ∧
                StoreP P T_api_Msg (.pointer (some a21)) (.agg #[(.int .i64 15), (.int .i64 0), (.int .i64 0), (.int .i64 n16), (.int .i64 0), (.int .i64 0), (.int .i64 0), (.int .i64 0), (.int .i64 0), (.int .i64 0), (.int .i64 0), (.int .i64 0), (.bool false), (.slice none 0 0), (.slice none 0 0), (.int .i64 0), (.int .i64 0), (.int .i64 0), (.int .i64 0), (.int .i64 0), (.int .i64 0), (.int .i64 0), (.int .i64 0), (.int .i64 0), (.bool false), (.int .i64 0), (.int .i64 0), (.int .i64 0), (.int .i64 0), (.slice none 0 0), (.int .i64 0), (.int .i64 0), (.int .i64 0), (.int .i64 0), (.int .i64 0), (.slice none 0 0), (.int .i64 0), (.int .i64 0), (.int .u64 0), (.int .i64 0), (.int .i64 0), (.bool false), (.bool false), (.bool false), (.slice none 0 0), (.int .i64 0), (.int .i64 n20), (.int .i64 n17), (.int .i64 n18), (.int .u64 0), (.int .i64 0), (.bool false), (.int .i64 0), (.int .i64 0), (.int .i64 0), (.slice none 0 0), (.slice none 0 0), (.slice none 0 0), (.int .i64 0)]) w22 fun w23 =>
                (S15 w23) ∧
                JoinP (T := Unit) (fun J24 =>
                RunQ (.int .i64) P (Instr.loadAt T_int (.pointer (some (Go.Addr.add a0 45)))) w23.drew fun (n27 : Int) =>
                ifB (n27 != 0)
                (RunQ .val P (Instr.loadAt T_api_Msg (.pointer (some a21))) w23.drew fun (v28 : Value) =>
                StoreP P T_api_Msg (.pointer (some a2)) v28 w23.drew fun w29 =>
                LoadK .val P T_api_Msg (.pointer (some a2)) w29 fun (v30 : Value) =>
                R (.tuple #[v30, (.bool false)]) w29)
                (nilCk x0 fun (a31 : Addr) =>
                RunQ .addr P (Instr.indexAt T_2_bool (.pointer (some (a31.add 6))) (.int .i64 0)) w23.drew fun (a32 : Addr) =>
                RunQ .bool P (Instr.loadAt T_bool (.pointer (some a32))) w23.drew fun (b33 : Bool) =>
                ifB (!b33)
                (RunQ .val P (Instr.loadAt T_api_Msg (.pointer (some a21))) w23.drew fun (v34 : Value) =>
                StoreP P T_api_Msg (.pointer (some a2)) v34 w23.drew fun w35 =>
                LoadK .val P T_api_Msg (.pointer (some a2)) w35 fun (v36 : Value) =>
                R (.tuple #[v36, (.bool false)]) w35)
                (RunQ (.int .i64) P (Instr.loadAt T_int (.pointer (some (Go.Addr.add a12 4)))) w23.drew fun (n37 : Int) =>
                nilCk x0 fun (a38 : Addr) =>
                RunQ (.int .i64) P (Instr.loadAt T_int (.pointer (some (a38.add 8)))) w23.drew fun (n39 : Int) =>
                ifB (n37 != n39)
                (RunQ .val P (Instr.loadAt T_api_Msg (.pointer (some a21))) w23.drew fun (v40 : Value) =>
                StoreP P T_api_Msg (.pointer (some a2)) v40 w23.drew fun w41 =>
                LoadK .val P T_api_Msg (.pointer (some a2)) w41 fun (v42 : Value) =>
                R (.tuple #[v42, (.bool false)]) w41)
                (RunQ (.int .i64) P (Instr.loadAt T_int (.pointer (some (Go.Addr.add a12 3)))) w23.drew fun (n43 : Int) =>
                nilCk x0 fun (a44 : Addr) =>
                RunQ (.int .i64) P (Instr.loadAt T_int (.pointer (some (a44.add 2)))) w23.drew fun (n45 : Int) =>
                ifB (n43 != n45)
                (RunQ .val P (Instr.loadAt T_api_Msg (.pointer (some a21))) w23.drew fun (v46 : Value) =>
                StoreP P T_api_Msg (.pointer (some a2)) v46 w23.drew fun w47 =>
                LoadK .val P T_api_Msg (.pointer (some a2)) w47 fun (v48 : Value) =>
                R (.tuple #[v48, (.bool false)]) w47)
                (RunQ .sl P (Instr.loadAt T_sl_sl_uint8 (.pointer (some (Go.Addr.add a12 8)))) w23.drew fun (s49 : Sl) =>
                ifB ((↑s49.len : Int) != 1)
                (RunQ .val P (Instr.loadAt T_api_Msg (.pointer (some a21))) w23.drew fun (v50 : Value) =>
                StoreP P T_api_Msg (.pointer (some a2)) v50 w23.drew fun w51 =>
                LoadK .val P T_api_Msg (.pointer (some a2)) w51 fun (v52 : Value) =>
                R (.tuple #[v52, (.bool false)]) w51)
                (J24 (some ()) w23.drew))))))
                fun t25 w26 =>
                nilCk x0 fun (a53 : Addr) =>
                RunQ (.int .i64) P (Instr.loadAt T_int (.pointer (some (a53.add 8)))) w26 fun (n54 : Int) =>
                nilCk x0 fun (a55 : Addr) =>
                StoreP P T_int (.pointer (some (a55.add 8))) (.int .i64 (IntKind.i64.wrap (n54 + 1))) w26 fun w56 =>
                RunQ .val P (Instr.loadAt T_api_Msg (.pointer (some a21))) w56 fun (v57 : Value) =>
                StoreP P T_api_Msg (.pointer (some a2)) v57 w56 fun w58 =>
                LoadK .val P T_api_Msg (.pointer (some a2)) w58 fun (v59 : Value) =>
                R (.tuple #[v59, (.bool true)]) w58)
def an_law19_server_answerAll : Ann := ⟨[(7, [])], [], []⟩
theorem e_law19_server_answerAll (R : Value → World → Prop) (x0 : Option Addr) (x1 : Value) (w : World) : denF P an_law19_server_answerAll Try.f48 [.pointer x0, x1] w R = S_law19_server_answerAll R x0 x1 w := by kernel_rfl
theorem c_law19_server_answerAll {R : Value → World → Prop} {x0 : Option Addr} {x1 : Value} {w : World} (h : S_law19_server_answerAll R x0 x1 w) : CallP P F_law19_server_answerAll [.pointer x0, x1] w R := calls_of_denF (an := an_law19_server_answerAll) Try.func48 (by rw [e_law19_server_answerAll]; exact h)


/-- (*penstock/penstocklaw19.server).answer -/
def S_law19_server_answer (R : Value → World → Prop) (x0 : Option Addr) (x1 : Value) (w : World) : Prop :=
 RunK .addr P (Instr.box T_api_Msg x1) w fun (a0 : Addr) w1 =>
 RunK .addr P (Instr.alloc T_api_Msg true (.tuple #[])) w1 fun (a2 : Addr) w3 =>
  RunQ (.int .i64) P (Instr.loadAt T_int (.pointer (some (Go.Addr.add a0 3)))) w3 fun (n4 : Int) =>
   RunQ (.int .i64) P (Instr.loadAt T_int (.pointer (some (Go.Addr.add a0 47)))) w3 fun (n5 : Int) =>
    RunQ (.int .i64) P (Instr.loadAt T_int (.pointer (some (Go.Addr.add a0 48)))) w3 fun (n6 : Int) =>
     RunK .addr P (Instr.alloc T_api_Msg true (.tuple #[])) w3 fun (a7 : Addr) w8 =>
      StoreP P T_api_Msg (.pointer (some a7)) (.agg #[(.int .i64 15), (.int .i64 0), (.int .i64 0), (.int .i64 n4), (.int .i64 0), (.int .i64 0), (.int .i64 0), (.int .i64 0), (.int .i64 0), (.int .i64 0), (.int .i64 0), (.int .i64 0), (.bool false), (.slice none 0 0), (.slice none 0 0), (.int .i64 0), (.int .i64 0), (.int .i64 0), (.int .i64 0), (.int .i64 0), (.int .i64 0), (.int .i64 0), (.int .i64 0), (.int .i64 0), (.bool false), (.int .i64 0), (.int .i64 0), (.int .i64 0), (.int .i64 0), (.slice none 0 0), (.int .i64 0), (.int .i64 0), (.int .i64 0), (.int .i64 0), (.int .i64 0), (.slice none 0 0), (.int .i64 0), (.int .i64 0), (.int .u64 0), (.int .i64 0), (.int .i64 0), (.bool false), (.bool false), (.bool false), (.slice none 0 0), (.int .i64 0), (.int .i64 0), (.int .i64 n5), (.int .i64 n6), (.int .u64 0), (.int .i64 0), (.bool false), (.int .i64 0), (.int .i64 0), (.int .i64 0), (.slice none 0 0), (.slice none 0 0), (.slice none 0 0), (.int .i64 0)]) w8 fun w9 =>
       RunQ (.int .i64) P (Instr.loadAt T_int (.pointer (some (Go.Addr.add a0 0)))) w9 fun (n10 : Int) =>
        ifB (n10 == 7)
         (nilCk x0 fun (a11 : Addr) =>
          RunQ (.int .i64) P (Instr.loadAt T_int (.pointer (some (a11.add 9)))) w9 fun (n12 : Int) =>
           nilCk x0 fun (a13 : Addr) =>
            StoreP P T_int (.pointer (some (a13.add 9))) (.int .i64 (IntKind.i64.wrap (n12 + 1))) w9 fun w14 =>
             nilCk x0 fun (a15 : Addr) =>
              RunQ (.int .u64) P (Instr.loadAt T_uint64 (.pointer (some (a15.add 1)))) w14 fun (n16 : Int) =>
               StoreP P T_uint64 (.pointer (some (Go.Addr.add a7 49))) (.int .u64 n16) w14 fun w17 =>
                nilCk x0 fun (a18 : Addr) =>
                RunQ (.int .i64) P (Instr.loadAt T_int (.pointer (some (a18.add 2)))) w17 fun (n19 : Int) =>
                StoreP P T_int (.pointer (some (Go.Addr.add a7 50))) (.int .i64 n19) w17 fun w20 =>
                StoreP P T_int (.pointer (some (Go.Addr.add a7 46))) (.int .i64 (-1)) w20 fun w21 =>
                RunQ .val P (Instr.loadAt T_api_Msg (.pointer (some a7))) w21 fun (v22 : Value) =>
                StoreP P T_api_Msg (.pointer (some a2)) v22 w21 fun w23 =>
                LoadK .val P T_api_Msg (.pointer (some a2)) w23 fun (v24 : Value) =>
                R (.tuple #[v24, (.bool true)]) w23)
         (ifB (n10 == 8)
          (JoinP (T := Unit) (fun J25 =>
           RunQ (.int .u64) P (Instr.loadAt T_uint64 (.pointer (some (Go.Addr.add a0 49)))) w9.drew fun (n28 : Int) =>
            nilCk x0 fun (a29 : Addr) =>
             RunQ (.int .u64) P (Instr.loadAt T_uint64 (.pointer (some (a29.add 1)))) w9.drew fun (n30 : Int) =>
              ifB (n28 != n30)
               (RunQ .val P (Instr.loadAt T_api_Msg (.pointer (some a7))) w9.drew fun (v31 : Value) =>
                StoreP P T_api_Msg (.pointer (some a2)) v31 w9.drew fun w32 =>
                LoadK .val P T_api_Msg (.pointer (some a2)) w32 fun (v33 : Value) =>
                R (.tuple #[v33, (.bool false)]) w32)
               (RunQ (.int .i64) P (Instr.loadAt T_int (.pointer (some (Go.Addr.add a0 50)))) w9.drew fun (n34 : Int) =>
                nilCk x0 fun (a35 : Addr) =>
                RunQ (.int .i64) P (Instr.loadAt T_int (.pointer (some (a35.add 2)))) w9.drew fun (n36 : Int) =>
                ifB (n34 != n36)
                (RunQ .val P (Instr.loadAt T_api_Msg (.pointer (some a7))) w9.drew fun (v37 : Value) =>
                StoreP P T_api_Msg (.pointer (some a2)) v37 w9.drew fun w38 =>
                LoadK .val P T_api_Msg (.pointer (some a2)) w38 fun (v39 : Value) =>
                R (.tuple #[v39, (.bool false)]) w38)
                (RunQ (.int .i64) P (Instr.loadAt T_int (.pointer (some (Go.Addr.add a0 46)))) w9.drew fun (n40 : Int) =>
                ifB (decide (n40 < 0))
                (RunQ .val P (Instr.loadAt T_api_Msg (.pointer (some a7))) w9.drew fun (v41 : Value) =>
                StoreP P T_api_Msg (.pointer (some a2)) v41 w9.drew fun w42 =>
                LoadK .val P T_api_Msg (.pointer (some a2)) w42 fun (v43 : Value) =>
                R (.tuple #[v43, (.bool false)]) w42)
                (RunQ (.int .i64) P (Instr.loadAt T_int (.pointer (some (Go.Addr.add a0 46)))) w9.drew fun (n44 : Int) =>
                ifB (decide (n44 > 1))
                (RunQ .val P (Instr.loadAt T_api_Msg (.pointer (some a7))) w9.drew fun (v45 : Value) =>
                StoreP P T_api_Msg (.pointer (some a2)) v45 w9.drew fun w46 =>
                LoadK .val P T_api_Msg (.pointer (some a2)) w46 fun (v47 : Value) =>
                R (.tuple #[v47, (.bool false)]) w46)
                (RunQ (.int .i64) P (Instr.loadAt T_int (.pointer (some (Go.Addr.add a0 46)))) w9.drew fun (n48 : Int) =>
                nilCk x0 fun (a49 : Addr) =>
                RunQ .addr P (Instr.indexAt T_2_bool (.pointer (some (a49.add 6))) (.int .i64 n48)) w9.drew fun (a50 : Addr) =>
                RunQ .bool P (Instr.loadAt T_bool (.pointer (some a50))) w9.drew fun (b51 : Bool) =>
                ifB b51
                (RunQ .val P (Instr.loadAt T_api_Msg (.pointer (some a7))) w9.drew fun (v52 : Value) =>
                StoreP P T_api_Msg (.pointer (some a2)) v52 w9.drew fun w53 =>
                LoadK .val P T_api_Msg (.pointer (some a2)) w53 fun (v54 : Value) =>
                R (.tuple #[v54, (.bool false)]) w53)
                (J25 (some ()) w9.drew))))))
           fun t26 w27 =>
           ∃ S55 : World → Prop, (S55 w27.drew) ∧
             HRun S55 (.int .i64) P (Instr.loadAt T_int (.pointer (some (Go.Addr.add a0 46)))) fun (n56 : Int) =>
              nilCk x0 fun (a57 : Addr) =>
               HRun S55 .addr P (Instr.indexAt T_2_bool (.pointer (some (a57.add 6))) (.int .i64 n56)) fun (a58 : Addr) =>
                StoreP P T_bool (.pointer (some a58)) (.bool true) w27.drew fun w59 =>
                (S55 w59) ∧
                RunQ .val P (Instr.loadAt T_api_Msg (.pointer (some a7))) w59 fun (v60 : Value) =>
                StoreP P T_api_Msg (.pointer (some a2)) v60 w59 fun w61 =>
                LoadK .val P T_api_Msg (.pointer (some a2)) w61 fun (v62 : Value) =>
                R (.tuple #[v62, (.bool true)]) w61)
          (ifB (n10 == 5)
           (False)
           (ifB (n10 == 9)
            (nilCk x0 fun (a63 : Addr) =>
             StoreP P T_bool (.pointer (some (a63.add 10))) (.bool true) w9 fun w64 =>
              nilCk x0 fun (a65 : Addr) =>
               RunQ (.int .i64) P (Instr.loadAt T_int (.pointer (some (a65.add 2)))) w64 fun (n66 : Int) =>
                StoreP P T_int (.pointer (some (Go.Addr.add a7 50))) (.int .i64 (IntKind.i64.wrap (n66 + 2))) w64 fun w67 =>
                ∃ S68 : World → Prop, (S68 w67.drew) ∧
                HRun S68 .val P (Instr.loadAt T_api_Msg (.pointer (some a7))) fun (v69 : Value) =>
                nilCk x0 fun (a70 : Addr) =>
                HRun S68 (.int .i64) P (Instr.loadAt T_int (.pointer (some (a70.add 8)))) fun (n71 : Int) =>
                nilCk x0 fun (a72 : Addr) =>
                HRun S68 .sl P (Instr.loadAt T_sl_api_Op (.pointer (some (a72.add 0)))) fun (s73 : Sl) =>
                ifB (n71 == IntKind.i64.wrap ((↑s73.len : Int) - 1))
                (HRun S68 (.int .u64) P (Instr.loadAt T_uint64 (.pointer (some (Go.Addr.add a0 49)))) fun (n74 : Int) =>
                nilCk x0 fun (a75 : Addr) =>
                HRun S68 (.int .u64) P (Instr.loadAt T_uint64 (.pointer (some (a75.add 1)))) fun (n76 : Int) =>
                ifB (n74 == n76)
                (HRun S68 (.int .i64) P (Instr.loadAt T_int (.pointer (some (Go.Addr.add a0 50)))) fun (n77 : Int) =>
                nilCk x0 fun (a78 : Addr) =>
                HRun S68 (.int .i64) P (Instr.loadAt T_int (.pointer (some (a78.add 2)))) fun (n79 : Int) =>
                ifB (n77 == n79)
                (HRun S68 .bool P (Instr.loadAt T_bool (.pointer (some (Go.Addr.add a0 51)))) fun (b80 : Bool) =>
                nilCk x0 fun (a81 : Addr) =>
                HRun S68 .bool P (Instr.loadAt T_bool (.pointer (some (a81.add 3)))) fun (b82 : Bool) =>
                StoreP P T_api_Msg (.pointer (some a2)) v69 w67.drew fun w83 =>
                (S68 w83) ∧
                LoadK .val P T_api_Msg (.pointer (some a2)) w83 fun (v84 : Value) =>
                R (.tuple #[v84, (.bool (b80 == b82))]) w83)
                (StoreP P T_api_Msg (.pointer (some a2)) v69 w67.drew fun w85 =>
                (S68 w85) ∧
                LoadK .val P T_api_Msg (.pointer (some a2)) w85 fun (v86 : Value) =>
                R (.tuple #[v86, (.bool false)]) w85))
                (StoreP P T_api_Msg (.pointer (some a2)) v69 w67.drew fun w87 =>
                (S68 w87) ∧
                LoadK .val P T_api_Msg (.pointer (some a2)) w87 fun (v88 : Value) =>
                R (.tuple #[v88, (.bool false)]) w87))
                (StoreP P T_api_Msg (.pointer (some a2)) v69 w67.drew fun w89 =>
                (S68 w89) ∧
                LoadK .val P T_api_Msg (.pointer (some a2)) w89 fun (v90 : Value) =>
                R (.tuple #[v90, (.bool false)]) w89))
            (RunQ .val P (Instr.loadAt T_api_Msg (.pointer (some a7))) w9 fun (v91 : Value) =>
             StoreP P T_api_Msg (.pointer (some a2)) v91 w9 fun w92 =>
              LoadK .val P T_api_Msg (.pointer (some a2)) w92 fun (v93 : Value) =>
               R (.tuple #[v93, (.bool false)]) w92))))
def an_law19_server_answer : Ann := ⟨[(12, []), (18, [])], [], [1015, 19]⟩
theorem e_law19_server_answer (R : Value → World → Prop) (x0 : Option Addr) (x1 : Value) (w : World) : denF P an_law19_server_answer Try.f64 [.pointer x0, x1] w R = S_law19_server_answer R x0 x1 w := by kernel_rfl
theorem c_law19_server_answer {R : Value → World → Prop} {x0 : Option Addr} {x1 : Value} {w : World} (h : S_law19_server_answer R x0 x1 w) : CallP P F_law19_server_answer [.pointer x0, x1] w R := calls_of_denF (an := an_law19_server_answer) Try.func64 (by rw [e_law19_server_answer]; exact h)

end Go.Proofs.Ytajhdjjmhfbhgaa
