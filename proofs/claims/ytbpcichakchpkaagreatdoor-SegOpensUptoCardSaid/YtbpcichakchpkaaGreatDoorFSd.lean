/- The functions of the program as predicates over worlds, written by a program of mine (PkPrint); each is held against the code by the kernel. -/
import Derived.Test.YtbpcichakchpkaaGreatDoorN
namespace Go.Proofs.YtbpcichakchpkaaGreatDoor
open Go Go.Pk
/-- (*penstock/penstockref08.Log).End -/
def S_ref08_Log_End (R : Value → World → Prop) (x0 : Option Addr) (w : World) : Prop :=
 nilCk x0 fun (a0 : Addr) =>
 RunQ .sl P (Instr.loadAt T_sl_api_Batch (.pointer (some (a0.add 0)))) w fun (s1 : Sl) =>
  ifB ((↑s1.len : Int) == 0)
   (CallP P F_ref08_Log_Start [(.pointer x0)] w fun (v2 : Value) w3 =>
    TyP (.int .i64) v2 fun (n4 : Int) =>
     R (.int .i64 n4) w3)
   (∃ S5 : World → Prop, (S5 w.drew) ∧
     nilCk x0 fun (a6 : Addr) =>
      HRun S5 .sl P (Instr.loadAt T_sl_api_Batch (.pointer (some (a6.add 0)))) fun (s7 : Sl) =>
       nilCk x0 fun (a8 : Addr) =>
        HRun S5 .sl P (Instr.loadAt T_sl_api_Batch (.pointer (some (a8.add 0)))) fun (s9 : Sl) =>
         HRun S5 .addr P (Instr.indexAt T_sl_api_Batch s7.v (.int .i64 (IntKind.i64.wrap ((↑s9.len : Int) - 1)))) fun (a10 : Addr) =>
          HRun S5 .val P (Instr.loadAt T_api_Batch (.pointer (some a10))) fun (v11 : Value) =>
           RunK .addr P (Instr.alloc T_api_Batch true (.tuple #[])) w.drew fun (a12 : Addr) w13 =>
            (S5 w13) ∧
             StoreP P T_api_Batch (.pointer (some a12)) v11 w13 fun w14 =>
              (S5 w14) ∧
               ∃ S15 : World → Prop, (S15 w14.drew) ∧
                HRun S15 (.int .i64) P (Instr.loadAt T_int (.pointer (some (Go.Addr.add a12 0)))) fun (n16 : Int) =>
                HRun S15 .val P (Instr.loadAt T_api_Batch (.pointer (some a12))) fun (v17 : Value) =>
                CallP P F_ref07_Size [v17] w14.drew fun (v18 : Value) w19 =>
                TyP (.int .i64) v18 fun (n20 : Int) =>
                (S15 w19) ∧
                R (.int .i64 (IntKind.i64.wrap (n16 + n20))) w19)
def an_ref08_Log_End : Ann := ⟨[], [], []⟩
theorem e_ref08_Log_End (R : Value → World → Prop) (x0 : Option Addr) (w : World) : denF P an_ref08_Log_End Tryz.f12 [.pointer x0] w R = S_ref08_Log_End R x0 w := by kernel_rfl
theorem c_ref08_Log_End {R : Value → World → Prop} {x0 : Option Addr} {w : World} (h : S_ref08_Log_End R x0 w) : CallP P F_ref08_Log_End [.pointer x0] w R := calls_of_denF (an := an_ref08_Log_End) Tryz.func12 (by rw [e_ref08_Log_End]; exact h)


/-- penstock/penstockref07.Copy -/
def S_ref07_Copy (R : Value → World → Prop) (x0 : Value) (w : World) : Prop :=
 RunK .addr P (Instr.box T_api_Batch x0) w fun (a0 : Addr) w1 =>
 RunK .addr P (Instr.alloc T_api_Batch true (.tuple #[])) w1 fun (a2 : Addr) w3 =>
  LoopP (T := Sl × Int × Unit) (some (⟨none, 0, 0⟩, (0, ()))) w3 fun next4 t5 w6 =>
   RunQ .sl P (Instr.loadAt T_sl_sl_uint8 (.pointer (some (Go.Addr.add a0 8)))) w6 fun (s7 : Sl) =>
    ifB (decide (t5.snd.fst < (↑s7.len : Int)))
     (RunQ .sl P (Instr.loadAt T_sl_sl_uint8 (.pointer (some (Go.Addr.add a0 8)))) w6 fun (s8 : Sl) =>
      RunQ .addr P (Instr.indexAt T_sl_sl_uint8 s8.v (.int .i64 t5.snd.fst)) w6 fun (a9 : Addr) =>
       RunQ .sl P (Instr.loadAt T_sl_uint8 (.pointer (some a9))) w6 fun (s10 : Sl) =>
        RunK .sl P (Builtin.append_ #[T_sl_uint8, T_sl_uint8] T_sl_uint8 #[(.slice none 0 0), s10.v]) w6 fun (s11 : Sl) w12 =>
         RunK .sl P (Instr.buildSlice T_sl_sl_uint8 1 #[(0, s11.v)]) w12 fun (s13 : Sl) w14 =>
          RunK .sl P (Builtin.append_ #[T_sl_sl_uint8, T_sl_sl_uint8] T_sl_sl_uint8 #[t5.fst.v, s13.v]) w14 fun (s15 : Sl) w16 =>
           next4 (some (s15, ((IntKind.i64.wrap (t5.snd.fst + 1)), ()))) w16)
     (StoreP P T_sl_sl_uint8 (.pointer (some (Go.Addr.add a0 8))) t5.fst.v w6 fun w17 =>
      RunQ .val P (Instr.loadAt T_api_Batch (.pointer (some a0))) w17 fun (v18 : Value) =>
       StoreP P T_api_Batch (.pointer (some a2)) v18 w17 fun w19 =>
        LoadK .val P T_api_Batch (.pointer (some a2)) w19 fun (v20 : Value) =>
         R v20 w19)
def an_ref07_Copy : Ann := ⟨[], [(3, [(3, .sl), (4, (.int .i64))])], []⟩
theorem e_ref07_Copy (R : Value → World → Prop) (x0 : Value) (w : World) : denF P an_ref07_Copy Tryz.f14 [x0] w R = S_ref07_Copy R x0 w := by kernel_rfl
theorem c_ref07_Copy {R : Value → World → Prop} {x0 : Value} {w : World} (h : S_ref07_Copy R x0 w) : CallP P F_ref07_Copy [x0] w R := calls_of_denF (an := an_ref07_Copy) Tryz.func14 (by rw [e_ref07_Copy]; exact h)


/-- (*penstock/penstockref08.Log).Put -/
def S_ref08_Log_Put (R : Value → World → Prop) (x0 : Option Addr) (x1 : Value) (w : World) : Prop :=
 RunK .addr P (Instr.box T_api_Batch x1) w fun (a0 : Addr) w1 =>
 RunQ .val P (Instr.loadAt T_api_Batch (.pointer (some a0))) w1 fun (v2 : Value) =>
  CallP P F_ref07_DocCheck [v2] w1 fun (v3 : Value) w4 =>
   TyP (.int .i64) v3 fun (n5 : Int) =>
    ifB (n5 != 0)
     (R (.int .i64 n5) w4)
     (∃ S6 : World → Prop, (S6 w4.drew) ∧
       HRun S6 (.int .i64) P (Instr.loadAt T_int (.pointer (some (Go.Addr.add a0 0)))) fun (n7 : Int) =>
        CallP P F_ref08_Log_End [(.pointer x0)] w4.drew fun (v8 : Value) w9 =>
         TyP (.int .i64) v8 fun (n10 : Int) =>
          (S6 w9) ∧
           ifB (n7 != n10)
            (R (.int .i64 13) w9)
            (JoinP (T := Unit) (fun J11 =>
             nilCk x0 fun (a14 : Addr) =>
              RunQ .sl P (Instr.loadAt T_sl_int (.pointer (some (a14.add 1)))) w9 fun (s15 : Sl) =>
               ifB ((↑s15.len : Int) == 0)
                (nilCk x0 fun (a16 : Addr) =>
                RunQ .sl P (Instr.loadAt T_sl_int (.pointer (some (a16.add 1)))) w9 fun (s17 : Sl) =>
                RunK .sl P (Instr.buildSlice T_sl_int 1 #[(0, (.int .i64 0))]) w9 fun (s18 : Sl) w19 =>
                RunK .sl P (Builtin.append_ #[T_sl_int, T_sl_int] T_sl_int #[s17.v, s18.v]) w19 fun (s20 : Sl) w21 =>
                nilCk x0 fun (a22 : Addr) =>
                StoreP P T_sl_int (.pointer (some (a22.add 1))) s20.v w21 fun w23 =>
                J11 (some ()) w23)
                (∃ S24 : World → Prop, (S24 w9.drew) ∧
                nilCk x0 fun (a25 : Addr) =>
                HRun S24 .sl P (Instr.loadAt T_sl_int (.pointer (some (a25.add 1)))) fun (s26 : Sl) =>
                nilCk x0 fun (a27 : Addr) =>
                HRun S24 .sl P (Instr.loadAt T_sl_int (.pointer (some (a27.add 1)))) fun (s28 : Sl) =>
                HRun S24 .addr P (Instr.indexAt T_sl_int s26.v (.int .i64 (IntKind.i64.wrap ((↑s28.len : Int) - 1)))) fun (a29 : Addr) =>
                HRun S24 (.int .i64) P (Instr.loadAt T_int (.pointer (some a29))) fun (n30 : Int) =>
                CallP P F_ref08_Log_bytes [(.pointer x0), (.int .i64 n30)] w9.drew fun (v31 : Value) w32 =>
                TyP (.int .i64) v31 fun (n33 : Int) =>
                (S24 w32) ∧
                ifB (decide (n33 ≥ 512))
                (CallP P F_ref08_Log_End [(.pointer x0)] w32 fun (v34 : Value) w35 =>
                TyP (.int .i64) v34 fun (n36 : Int) =>
                nilCk x0 fun (a37 : Addr) =>
                StoreP P T_int (.pointer (some (a37.add 2))) (.int .i64 n36) w35 fun w38 =>
                ∃ S39 : World → Prop, (S39 w38.drew) ∧
                nilCk x0 fun (a40 : Addr) =>
                HRun S39 (.int .i64) P (Instr.loadAt T_int (.pointer (some (Go.Addr.add a0 0)))) fun (n41 : Int) =>
                (RunQ .sl P (Instr.loadAt T_sl_int (.pointer (some (a40.add 1)))) w38.drew fun (s42 : Sl) =>
                (S39 w38.drew) ∧
                RunK .sl P (Instr.buildSlice T_sl_int 1 #[(0, (.int .i64 n41))]) w38.drew fun (s43 : Sl) w44 =>
                (S39 w44) ∧
                RunK .sl P (Builtin.append_ #[T_sl_int, T_sl_int] T_sl_int #[s42.v, s43.v]) w44 fun (s45 : Sl) w46 =>
                (S39 w46) ∧
                nilCk x0 fun (a47 : Addr) =>
                StoreP P T_sl_int (.pointer (some (a47.add 1))) s45.v w46 fun w48 =>
                (S39 w48) ∧
                J11 (some ()) w48) ∧
                (RunK .sl P (Instr.buildSlice T_sl_int 1 #[(0, (.int .i64 n41))]) w38.drew fun (s49 : Sl) w50 =>
                (S39 w50) ∧
                RunQ .sl P (Instr.loadAt T_sl_int (.pointer (some (a40.add 1)))) w50 fun (s51 : Sl) =>
                (S39 w50) ∧
                RunK .sl P (Builtin.append_ #[T_sl_int, T_sl_int] T_sl_int #[s51.v, s49.v]) w50 fun (s52 : Sl) w53 =>
                (S39 w53) ∧
                nilCk x0 fun (a54 : Addr) =>
                StoreP P T_sl_int (.pointer (some (a54.add 1))) s52.v w53 fun w55 =>
                (S39 w55) ∧
                J11 (some ()) w55) ∧
                True)
                (J11 (some ()) w32)))
             fun t12 w13 =>
             ∃ S56 : World → Prop, (S56 w13.drew) ∧
               nilCk x0 fun (a57 : Addr) =>
                HRun S56 .val P (Instr.loadAt T_api_Batch (.pointer (some a0))) fun (v58 : Value) =>
                (RunQ .sl P (Instr.loadAt T_sl_api_Batch (.pointer (some (a57.add 0)))) w13.drew fun (s59 : Sl) =>
                (S56 w13.drew) ∧
                CallP P F_ref07_Copy [v58] w13.drew fun (v60 : Value) w61 =>
                TyP .val v60 fun (v62 : Value) =>
                (S56 w61) ∧
                RunK .sl P (Instr.buildSlice T_sl_api_Batch 1 #[(0, v62)]) w61 fun (s63 : Sl) w64 =>
                (S56 w64) ∧
                RunK .sl P (Builtin.append_ #[T_sl_api_Batch, T_sl_api_Batch] T_sl_api_Batch #[s59.v, s63.v]) w64 fun (s65 : Sl) w66 =>
                (S56 w66) ∧
                nilCk x0 fun (a67 : Addr) =>
                StoreP P T_sl_api_Batch (.pointer (some (a67.add 0))) s65.v w66 fun w68 =>
                (S56 w68) ∧
                R (.int .i64 0) w68) ∧
                (CallP P F_ref07_Copy [v58] w13.drew fun (v69 : Value) w70 =>
                TyP .val v69 fun (v71 : Value) =>
                (S56 w70) ∧
                (RunQ .sl P (Instr.loadAt T_sl_api_Batch (.pointer (some (a57.add 0)))) w70 fun (s72 : Sl) =>
                (S56 w70) ∧
                RunK .sl P (Instr.buildSlice T_sl_api_Batch 1 #[(0, v71)]) w70 fun (s73 : Sl) w74 =>
                (S56 w74) ∧
                RunK .sl P (Builtin.append_ #[T_sl_api_Batch, T_sl_api_Batch] T_sl_api_Batch #[s72.v, s73.v]) w74 fun (s75 : Sl) w76 =>
                (S56 w76) ∧
                nilCk x0 fun (a77 : Addr) =>
                StoreP P T_sl_api_Batch (.pointer (some (a77.add 0))) s75.v w76 fun w78 =>
                (S56 w78) ∧
                R (.int .i64 0) w78) ∧
                (RunK .sl P (Instr.buildSlice T_sl_api_Batch 1 #[(0, v71)]) w70 fun (s79 : Sl) w80 =>
                (S56 w80) ∧
                RunQ .sl P (Instr.loadAt T_sl_api_Batch (.pointer (some (a57.add 0)))) w80 fun (s81 : Sl) =>
                (S56 w80) ∧
                RunK .sl P (Builtin.append_ #[T_sl_api_Batch, T_sl_api_Batch] T_sl_api_Batch #[s81.v, s79.v]) w80 fun (s82 : Sl) w83 =>
                (S56 w83) ∧
                nilCk x0 fun (a84 : Addr) =>
                StoreP P T_sl_api_Batch (.pointer (some (a84.add 0))) s82.v w83 fun w85 =>
                (S56 w85) ∧
                R (.int .i64 0) w85) ∧
                True) ∧
                True))
def an_ref08_Log_Put : Ann := ⟨[(11, [])], [], [10, 11]⟩
theorem e_ref08_Log_Put (R : Value → World → Prop) (x0 : Option Addr) (x1 : Value) (w : World) : denF P an_ref08_Log_Put Tryz.f15 [.pointer x0, x1] w R = S_ref08_Log_Put R x0 x1 w := by kernel_rfl
theorem c_ref08_Log_Put {R : Value → World → Prop} {x0 : Option Addr} {x1 : Value} {w : World} (h : S_ref08_Log_Put R x0 x1 w) : CallP P F_ref08_Log_Put [.pointer x0, x1] w R := calls_of_denF (an := an_ref08_Log_Put) Tryz.func15 (by rw [e_ref08_Log_Put]; exact h)


/-- penstock/penstockref07.SameList -/
def S_ref07_SameList (R : Value → World → Prop) (x0 : Sl) (x1 : Sl) (w : World) : Prop :=
 ifB ((↑x0.len : Int) != (↑x1.len : Int))
 (R (.bool false) w)
 (LoopP (T := Int × Unit) (some (0, ())) w fun next0 t1 w2 =>
  ifB (decide (t1.fst < (↑x0.len : Int)))
   (∃ S3 : World → Prop, (S3 w2.drew) ∧
     HRun S3 .addr P (Instr.indexAt T_sl_api_Batch x0.v (.int .i64 t1.fst)) fun (a4 : Addr) =>
      HRun S3 .val P (Instr.loadAt T_api_Batch (.pointer (some a4))) fun (v5 : Value) =>
       HRun S3 .addr P (Instr.indexAt T_sl_api_Batch x1.v (.int .i64 t1.fst)) fun (a6 : Addr) =>
        HRun S3 .val P (Instr.loadAt T_api_Batch (.pointer (some a6))) fun (v7 : Value) =>
         CallP P F_ref07_Same [v5, v7] w2.drew fun (v8 : Value) w9 =>
          TyP .bool v8 fun (b10 : Bool) =>
           (S3 w9) ∧
            ifB (!b10)
             (R (.bool false) w9)
             (next0 (some ((IntKind.i64.wrap (t1.fst + 1)), ())) w9))
   (R (.bool true) w2))
def an_ref07_SameList : Ann := ⟨[], [(4, [(5, (.int .i64))])], []⟩
theorem e_ref07_SameList (R : Value → World → Prop) (x0 : Sl) (x1 : Sl) (w : World) : denF P an_ref07_SameList Tryz.f17 [x0.v, x1.v] w R = S_ref07_SameList R x0 x1 w := by kernel_rfl
theorem c_ref07_SameList {R : Value → World → Prop} {x0 : Sl} {x1 : Sl} {w : World} (h : S_ref07_SameList R x0 x1 w) : CallP P F_ref07_SameList [x0.v, x1.v] w R := calls_of_denF (an := an_ref07_SameList) Tryz.func17 (by rw [e_ref07_SameList]; exact h)


/-- (*penstock/penstockref08.Log).Read -/
def S_ref08_Log_Read (R : Value → World → Prop) (x0 : Option Addr) (x1 : Int) (x2 : Int) (w : World) : Prop :=
 LoopP (T := Sl × Int × Unit) (some (⟨none, 0, 0⟩, (0, ()))) w fun next0 t1 w2 =>
 JoinP (T := Unit) (fun J3 =>
  nilCk x0 fun (a6 : Addr) =>
   RunQ .sl P (Instr.loadAt T_sl_api_Batch (.pointer (some (a6.add 0)))) w2 fun (s7 : Sl) =>
    ifB (decide (t1.snd.fst < (↑s7.len : Int)))
     (ifB (decide ((↑t1.fst.len : Int) < x2))
      (J3 (some ()) w2)
      (R t1.fst.v w2))
     (R t1.fst.v w2))
  fun t4 w5 =>
  ∃ S8 : World → Prop, (S8 w5.drew) ∧
    nilCk x0 fun (a9 : Addr) =>
     HRun S8 .sl P (Instr.loadAt T_sl_api_Batch (.pointer (some (a9.add 0)))) fun (s10 : Sl) =>
      HRun S8 .addr P (Instr.indexAt T_sl_api_Batch s10.v (.int .i64 t1.snd.fst)) fun (a11 : Addr) =>
       HRun S8 (.int .i64) P (Instr.loadAt T_int (.pointer (some (Go.Addr.add a11 0)))) fun (n12 : Int) =>
        nilCk x0 fun (a13 : Addr) =>
         HRun S8 .sl P (Instr.loadAt T_sl_api_Batch (.pointer (some (a13.add 0)))) fun (s14 : Sl) =>
          HRun S8 .addr P (Instr.indexAt T_sl_api_Batch s14.v (.int .i64 t1.snd.fst)) fun (a15 : Addr) =>
           HRun S8 .val P (Instr.loadAt T_api_Batch (.pointer (some a15))) fun (v16 : Value) =>
            CallP P F_ref07_Size [v16] w5.drew fun (v17 : Value) w18 =>
             TyP (.int .i64) v17 fun (n19 : Int) =>
              (S8 w18) ∧
               ifB (decide (IntKind.i64.wrap (n12 + n19) > x1))
                (nilCk x0 fun (a20 : Addr) =>
                RunQ .sl P (Instr.loadAt T_sl_api_Batch (.pointer (some (a20.add 0)))) w18 fun (s21 : Sl) =>
                RunQ .addr P (Instr.indexAt T_sl_api_Batch s21.v (.int .i64 t1.snd.fst)) w18 fun (a22 : Addr) =>
                RunQ .val P (Instr.loadAt T_api_Batch (.pointer (some a22))) w18 fun (v23 : Value) =>
                RunK .sl P (Instr.buildSlice T_sl_api_Batch 1 #[(0, v23)]) w18 fun (s24 : Sl) w25 =>
                RunK .sl P (Builtin.append_ #[T_sl_api_Batch, T_sl_api_Batch] T_sl_api_Batch #[t1.fst.v, s24.v]) w25 fun (s26 : Sl) w27 =>
                next0 (some (s26, ((IntKind.i64.wrap (t1.snd.fst + 1)), ()))) w27)
                (next0 (some (t1.fst, ((IntKind.i64.wrap (t1.snd.fst + 1)), ()))) w18)
def an_ref08_Log_Read : Ann := ⟨[(5, [])], [(3, [(7, .sl), (8, (.int .i64))])], []⟩
theorem e_ref08_Log_Read (R : Value → World → Prop) (x0 : Option Addr) (x1 : Int) (x2 : Int) (w : World) : denF P an_ref08_Log_Read Tryz.f18 [.pointer x0, .int .i64 x1, .int .i64 x2] w R = S_ref08_Log_Read R x0 x1 x2 w := by kernel_rfl
theorem c_ref08_Log_Read {R : Value → World → Prop} {x0 : Option Addr} {x1 : Int} {x2 : Int} {w : World} (h : S_ref08_Log_Read R x0 x1 x2 w) : CallP P F_ref08_Log_Read [.pointer x0, .int .i64 x1, .int .i64 x2] w R := calls_of_denF (an := an_ref08_Log_Read) Tryz.func18 (by rw [e_ref08_Log_Read]; exact h)


/-- penstock/penstockref03.Same -/
def S_ref03_Same (R : Value → World → Prop) (x0 : Sl) (x1 : Sl) (w : World) : Prop :=
 ifB ((↑x0.len : Int) != (↑x1.len : Int))
 (R (.bool false) w)
 (LoopP (T := Int × Unit) (some (0, ())) w fun next0 t1 w2 =>
  ifB (decide (t1.fst < (↑x0.len : Int)))
   (RunQ .addr P (Instr.indexAt T_sl_uint8 x0.v (.int .i64 t1.fst)) w2.drew fun (a3 : Addr) =>
    RunQ (.int .u8) P (Instr.loadAt T_uint8 (.pointer (some a3))) w2.drew fun (n4 : Int) =>
     RunQ .addr P (Instr.indexAt T_sl_uint8 x1.v (.int .i64 t1.fst)) w2.drew fun (a5 : Addr) =>
      RunQ (.int .u8) P (Instr.loadAt T_uint8 (.pointer (some a5))) w2.drew fun (n6 : Int) =>
       ifB (n4 != n6)
        (R (.bool false) w2.drew)
        (next0 (some ((IntKind.i64.wrap (t1.fst + 1)), ())) w2.drew))
   (R (.bool true) w2))
def an_ref03_Same : Ann := ⟨[], [(4, [(5, (.int .i64))])], []⟩
theorem e_ref03_Same (R : Value → World → Prop) (x0 : Sl) (x1 : Sl) (w : World) : denF P an_ref03_Same Tryz.f21 [x0.v, x1.v] w R = S_ref03_Same R x0 x1 w := by kernel_rfl
theorem c_ref03_Same {R : Value → World → Prop} {x0 : Sl} {x1 : Sl} {w : World} (h : S_ref03_Same R x0 x1 w) : CallP P F_ref03_Same [x0.v, x1.v] w R := calls_of_denF (an := an_ref03_Same) Tryz.func21 (by rw [e_ref03_Same]; exact h)


/-- penstock/penstocklaw08.frames -/
def S_law08_frames (R : Value → World → Prop) (x0 : Sl) (x1 : Int) (x2 : Int) (w : World) : Prop :=
 LoopP (T := Sl × Int × Unit) (some (⟨none, 0, 0⟩, (0, ()))) w fun next0 t1 w2 =>
 ifB (decide (t1.snd.fst < (↑x0.len : Int)))
  (RunQ .addr P (Instr.indexAt T_sl_api_Batch x0.v (.int .i64 t1.snd.fst)) w2 fun (a3 : Addr) =>
   RunQ .val P (Instr.loadAt T_api_Batch (.pointer (some a3))) w2 fun (v4 : Value) =>
    RunK .addr P (Instr.alloc T_api_Batch true (.tuple #[])) w2 fun (a5 : Addr) w6 =>
     StoreP P T_api_Batch (.pointer (some a5)) v4 w6 fun w7 =>
      RunQ (.int .i64) P (Instr.loadAt T_int (.pointer (some (Go.Addr.add a5 0)))) w7 fun (n8 : Int) =>
       ifB (decide (n8 ≥ x1))
        (RunQ .val P (Instr.loadAt T_api_Batch (.pointer (some a5))) w7 fun (v9 : Value) =>
         CallP P F_law08_end [v9] w7 fun (v10 : Value) w11 =>
          TyP (.int .i64) v10 fun (n12 : Int) =>
           ifB (decide (n12 ≤ x2))
            (RunQ .val P (Instr.loadAt T_api_Batch (.pointer (some a5))) w11 fun (v13 : Value) =>
             CallP P F_ref07_DocEncode [v13] w11 fun (v14 : Value) w15 =>
              TupP [.sl, (.int .i64)] v14 fun (t16 : Sl × Int × Unit) =>
               CallP P F_ref04_DocEncode [t16.fst.v] w15 fun (v17 : Value) w18 =>
                TupP [.sl, (.int .i64)] v17 fun (t19 : Sl × Int × Unit) =>
                RunK .sl P (Builtin.append_ #[T_sl_uint8, T_sl_uint8] T_sl_uint8 #[t1.fst.v, t19.fst.v]) w18 fun (s20 : Sl) w21 =>
                next0 (some (s20, ((IntKind.i64.wrap (t1.snd.fst + 1)), ()))) w21)
            (next0 (some (t1.fst, ((IntKind.i64.wrap (t1.snd.fst + 1)), ()))) w11))
        (next0 (some (t1.fst, ((IntKind.i64.wrap (t1.snd.fst + 1)), ()))) w7))
  (R t1.fst.v w2)
def an_law08_frames : Ann := ⟨[], [(3, [(7, .sl), (16, (.int .i64))])], []⟩
theorem e_law08_frames (R : Value → World → Prop) (x0 : Sl) (x1 : Int) (x2 : Int) (w : World) : denF P an_law08_frames Tryz.f22 [x0.v, .int .i64 x1, .int .i64 x2] w R = S_law08_frames R x0 x1 x2 w := by kernel_rfl
theorem c_law08_frames {R : Value → World → Prop} {x0 : Sl} {x1 : Int} {x2 : Int} {w : World} (h : S_law08_frames R x0 x1 x2 w) : CallP P F_law08_frames [x0.v, .int .i64 x1, .int .i64 x2] w R := calls_of_denF (an := an_law08_frames) Tryz.func22 (by rw [e_law08_frames]; exact h)


/-- penstock/penstockref07.DocEncode -/
def S_ref07_DocEncode (R : Value → World → Prop) (x0 : Value) (w : World) : Prop :=
 RunK .addr P (Instr.box T_api_Batch x0) w fun (a0 : Addr) w1 =>
 RunQ .val P (Instr.loadAt T_api_Batch (.pointer (some a0))) w1 fun (v2 : Value) =>
  CallP P F_ref07_DocCheck [v2] w1 fun (v3 : Value) w4 =>
   TyP (.int .i64) v3 fun (n5 : Int) =>
    ifB (n5 != 0)
     (R (.tuple #[(.slice none 0 0), (.int .i64 n5)]) w4)
     (RunQ (.int .i64) P (Instr.loadAt T_int (.pointer (some (Go.Addr.add a0 0)))) w4 fun (n6 : Int) =>
      CallP P F_ref03_Int [(.int .i64 n6)] w4 fun (v7 : Value) w8 =>
       TyP .sl v7 fun (s9 : Sl) =>
        RunQ (.int .i64) P (Instr.loadAt T_int (.pointer (some (Go.Addr.add a0 1)))) w8 fun (n10 : Int) =>
         CallP P F_ref03_Int [(.int .i64 n10)] w8 fun (v11 : Value) w12 =>
          TyP .sl v11 fun (s13 : Sl) =>
           RunK .sl P (Builtin.append_ #[T_sl_uint8, T_sl_uint8] T_sl_uint8 #[s9.v, s13.v]) w12 fun (s14 : Sl) w15 =>
            RunQ (.int .u64) P (Instr.loadAt T_uint64 (.pointer (some (Go.Addr.add a0 2)))) w15 fun (n16 : Int) =>
             CallP P F_ref03_Uint [(.int .u64 n16)] w15 fun (v17 : Value) w18 =>
              TyP .sl v17 fun (s19 : Sl) =>
               RunK .sl P (Builtin.append_ #[T_sl_uint8, T_sl_uint8] T_sl_uint8 #[s14.v, s19.v]) w18 fun (s20 : Sl) w21 =>
                RunQ (.int .i64) P (Instr.loadAt T_int (.pointer (some (Go.Addr.add a0 3)))) w21 fun (n22 : Int) =>
                CallP P F_ref03_Int [(.int .i64 n22)] w21 fun (v23 : Value) w24 =>
                TyP .sl v23 fun (s25 : Sl) =>
                RunK .sl P (Builtin.append_ #[T_sl_uint8, T_sl_uint8] T_sl_uint8 #[s20.v, s25.v]) w24 fun (s26 : Sl) w27 =>
                RunQ (.int .i64) P (Instr.loadAt T_int (.pointer (some (Go.Addr.add a0 4)))) w27 fun (n28 : Int) =>
                CallP P F_ref03_Int [(.int .i64 n28)] w27 fun (v29 : Value) w30 =>
                TyP .sl v29 fun (s31 : Sl) =>
                RunK .sl P (Builtin.append_ #[T_sl_uint8, T_sl_uint8] T_sl_uint8 #[s26.v, s31.v]) w30 fun (s32 : Sl) w33 =>
                RunQ .bool P (Instr.loadAt T_bool (.pointer (some (Go.Addr.add a0 5)))) w33 fun (b34 : Bool) =>
                CallP P F_ref03_Flag [(.bool b34)] w33 fun (v35 : Value) w36 =>
                TyP .sl v35 fun (s37 : Sl) =>
                RunK .sl P (Builtin.append_ #[T_sl_uint8, T_sl_uint8] T_sl_uint8 #[s32.v, s37.v]) w36 fun (s38 : Sl) w39 =>
                RunQ .bool P (Instr.loadAt T_bool (.pointer (some (Go.Addr.add a0 6)))) w39 fun (b40 : Bool) =>
                CallP P F_ref03_Flag [(.bool b40)] w39 fun (v41 : Value) w42 =>
                TyP .sl v41 fun (s43 : Sl) =>
                RunK .sl P (Builtin.append_ #[T_sl_uint8, T_sl_uint8] T_sl_uint8 #[s38.v, s43.v]) w42 fun (s44 : Sl) w45 =>
                RunQ .bool P (Instr.loadAt T_bool (.pointer (some (Go.Addr.add a0 7)))) w45 fun (b46 : Bool) =>
                CallP P F_ref03_Flag [(.bool b46)] w45 fun (v47 : Value) w48 =>
                TyP .sl v47 fun (s49 : Sl) =>
                RunK .sl P (Builtin.append_ #[T_sl_uint8, T_sl_uint8] T_sl_uint8 #[s44.v, s49.v]) w48 fun (s50 : Sl) w51 =>
                RunQ .sl P (Instr.loadAt T_sl_sl_uint8 (.pointer (some (Go.Addr.add a0 8)))) w51 fun (s52 : Sl) =>
                CallP P F_ref03_Uint [(.int .u64 (IntKind.u64.wrap (↑s52.len : Int)))] w51 fun (v53 : Value) w54 =>
                TyP .sl v53 fun (s55 : Sl) =>
                RunK .sl P (Builtin.append_ #[T_sl_uint8, T_sl_uint8] T_sl_uint8 #[s50.v, s55.v]) w54 fun (s56 : Sl) w57 =>
                LoopP (T := Sl × Int × Unit) (some (s56, (0, ()))) w57 fun next58 t59 w60 =>
                RunQ .sl P (Instr.loadAt T_sl_sl_uint8 (.pointer (some (Go.Addr.add a0 8)))) w60 fun (s61 : Sl) =>
                ifB (decide (t59.snd.fst < (↑s61.len : Int)))
                (RunQ .sl P (Instr.loadAt T_sl_sl_uint8 (.pointer (some (Go.Addr.add a0 8)))) w60 fun (s62 : Sl) =>
                RunQ .addr P (Instr.indexAt T_sl_sl_uint8 s62.v (.int .i64 t59.snd.fst)) w60 fun (a63 : Addr) =>
                RunQ .sl P (Instr.loadAt T_sl_uint8 (.pointer (some a63))) w60 fun (s64 : Sl) =>
                CallP P F_ref03_Bytes [s64.v] w60 fun (v65 : Value) w66 =>
                TyP .sl v65 fun (s67 : Sl) =>
                RunK .sl P (Builtin.append_ #[T_sl_uint8, T_sl_uint8] T_sl_uint8 #[t59.fst.v, s67.v]) w66 fun (s68 : Sl) w69 =>
                next58 (some (s68, ((IntKind.i64.wrap (t59.snd.fst + 1)), ()))) w69)
                (R (.tuple #[t59.fst.v, (.int .i64 0)]) w60))
def an_ref07_DocEncode : Ann := ⟨[], [(14, [(5, .sl), (6, (.int .i64))])], []⟩
theorem e_ref07_DocEncode (R : Value → World → Prop) (x0 : Value) (w : World) : denF P an_ref07_DocEncode Tryz.f24 [x0] w R = S_ref07_DocEncode R x0 w := by kernel_rfl
theorem c_ref07_DocEncode {R : Value → World → Prop} {x0 : Value} {w : World} (h : S_ref07_DocEncode R x0 w) : CallP P F_ref07_DocEncode [x0] w R := calls_of_denF (an := an_ref07_DocEncode) Tryz.func24 (by rw [e_ref07_DocEncode]; exact h)


/-- penstock/penstockref04.DocEncode -/
def S_ref04_DocEncode (R : Value → World → Prop) (x0 : Sl) (w : World) : Prop :=
 ifB (decide ((↑x0.len : Int) > 4096))
 (R (.tuple #[(.slice none 0 0), (.int .i64 2)]) w)
 (CallP P F_ref03_Fixed [(.int .u32 (IntKind.u32.wrap (↑x0.len : Int)))] w fun (v0 : Value) w1 =>
  TyP .sl v0 fun (s2 : Sl) =>
   CallP P F_ref02_More [(.int .u32 0), x0.v] w1 fun (v3 : Value) w4 =>
    TyP (.int .u32) v3 fun (n5 : Int) =>
     CallP P F_ref03_Fixed [(.int .u32 n5)] w4 fun (v6 : Value) w7 =>
      TyP .sl v6 fun (s8 : Sl) =>
       RunK .sl P (Builtin.append_ #[T_sl_uint8, T_sl_uint8] T_sl_uint8 #[s2.v, s8.v]) w7 fun (s9 : Sl) w10 =>
        RunK .sl P (Builtin.append_ #[T_sl_uint8, T_sl_uint8] T_sl_uint8 #[s9.v, x0.v]) w10 fun (s11 : Sl) w12 =>
         R (.tuple #[s11.v, (.int .i64 0)]) w12)
def an_ref04_DocEncode : Ann := ⟨[], [], []⟩
theorem e_ref04_DocEncode (R : Value → World → Prop) (x0 : Sl) (w : World) : denF P an_ref04_DocEncode Tryz.f25 [x0.v] w R = S_ref04_DocEncode R x0 w := by kernel_rfl
theorem c_ref04_DocEncode {R : Value → World → Prop} {x0 : Sl} {w : World} (h : S_ref04_DocEncode R x0 w) : CallP P F_ref04_DocEncode [x0.v] w R := calls_of_denF (an := an_ref04_DocEncode) Tryz.func25 (by rw [e_ref04_DocEncode]; exact h)


/-- penstock/penstocklaw08.end -/
def S_law08_end (R : Value → World → Prop) (x0 : Value) (w : World) : Prop :=
 RunK .addr P (Instr.box T_api_Batch x0) w fun (a0 : Addr) w1 =>
 ∃ S2 : World → Prop, (S2 w1.drew) ∧
   HRun S2 (.int .i64) P (Instr.loadAt T_int (.pointer (some (Go.Addr.add a0 0)))) fun (n3 : Int) =>
    HRun S2 .val P (Instr.loadAt T_api_Batch (.pointer (some a0))) fun (v4 : Value) =>
     CallP P F_ref07_Size [v4] w1.drew fun (v5 : Value) w6 =>
      TyP (.int .i64) v5 fun (n7 : Int) =>
       (S2 w6) ∧
        R (.int .i64 (IntKind.i64.wrap (n3 + n7))) w6
def an_law08_end : Ann := ⟨[], [], []⟩
theorem e_law08_end (R : Value → World → Prop) (x0 : Value) (w : World) : denF P an_law08_end Tryz.f26 [x0] w R = S_law08_end R x0 w := by kernel_rfl
theorem c_law08_end {R : Value → World → Prop} {x0 : Value} {w : World} (h : S_law08_end R x0 w) : CallP P F_law08_end [x0] w R := calls_of_denF (an := an_law08_end) Tryz.func26 (by rw [e_law08_end]; exact h)


/-- penstock/penstockref04.DocDecode -/
def S_ref04_DocDecode (R : Value → World → Prop) (x0 : Sl) (x1 : Int) (w : World) : Prop :=
 RunK .addr P (Instr.box T_penstockref03_Reader (.agg #[x0.v, (.int .i64 x1), (.int .i64 0)])) w fun (a0 : Addr) w1 =>
 CallP P F_ref03_Reader_Fixed [(.pointer (some a0))] w1 fun (v2 : Value) w3 =>
  TyP (.int .u32) v2 fun (n4 : Int) =>
   CallP P F_ref03_Reader_Fixed [(.pointer (some a0))] w3 fun (v5 : Value) w6 =>
    TyP (.int .u32) v5 fun (n7 : Int) =>
     RunQ (.int .i64) P (Instr.loadAt T_int (.pointer (some (Go.Addr.add a0 2)))) w6 fun (n8 : Int) =>
      ifB (n8 != 0)
       (R (.tuple #[(.slice none 0 0), (.int .i64 0), (.int .i64 6)]) w6)
       (ifB (decide (n4 > 4096))
        (R (.tuple #[(.slice none 0 0), (.int .i64 0), (.int .i64 2)]) w6)
        (RunQ (.int .i64) P (Instr.loadAt T_int (.pointer (some (Go.Addr.add a0 1)))) w6 fun (n9 : Int) =>
         ifB (decide (IntKind.i64.wrap (n9 + IntKind.i64.wrap n4) > (↑x0.len : Int)))
          (R (.tuple #[(.slice none 0 0), (.int .i64 0), (.int .i64 6)]) w6)
          (RunQ (.int .i64) P (Instr.loadAt T_int (.pointer (some (Go.Addr.add a0 1)))) w6.drew fun (n10 : Int) =>
           RunQ (.int .i64) P (Instr.loadAt T_int (.pointer (some (Go.Addr.add a0 1)))) w6.drew fun (n11 : Int) =>
            RunQ .sl P (Instr.sliceAt T_sl_uint8 x0.v (some (.int .i64 n10)) (some (.int .i64 (IntKind.i64.wrap (n11 + IntKind.i64.wrap n4)))) none) w6.drew fun (s12 : Sl) =>
             CallP P F_ref02_More [(.int .u32 0), s12.v] w6.drew fun (v13 : Value) w14 =>
              TyP (.int .u32) v13 fun (n15 : Int) =>
               ifB (n15 != n7)
                (R (.tuple #[(.slice none 0 0), (.int .i64 0), (.int .i64 8)]) w14)
                (RunQ (.int .i64) P (Instr.loadAt T_int (.pointer (some (Go.Addr.add a0 1)))) w14.drew fun (n16 : Int) =>
                R (.tuple #[s12.v, (.int .i64 (IntKind.i64.wrap (n16 + IntKind.i64.wrap n4))), (.int .i64 0)]) w14.drew))))
def an_ref04_DocDecode : Ann := ⟨[], [], []⟩
theorem e_ref04_DocDecode (R : Value → World → Prop) (x0 : Sl) (x1 : Int) (w : World) : denF P an_ref04_DocDecode Tryz.f27 [x0.v, .int .i64 x1] w R = S_ref04_DocDecode R x0 x1 w := by kernel_rfl
theorem c_ref04_DocDecode {R : Value → World → Prop} {x0 : Sl} {x1 : Int} {w : World} (h : S_ref04_DocDecode R x0 x1 w) : CallP P F_ref04_DocDecode [x0.v, .int .i64 x1] w R := calls_of_denF (an := an_ref04_DocDecode) Tryz.func27 (by rw [e_ref04_DocDecode]; exact h)


/-- (*penstock/penstockref08.Log).Start -/
def S_ref08_Log_Start (R : Value → World → Prop) (x0 : Option Addr) (w : World) : Prop :=
 nilCk x0 fun (a0 : Addr) =>
 RunQ .sl P (Instr.loadAt T_sl_int (.pointer (some (a0.add 1)))) w fun (s1 : Sl) =>
  ifB ((↑s1.len : Int) == 0)
   (R (.int .i64 0) w)
   (nilCk x0 fun (a2 : Addr) =>
    RunQ .sl P (Instr.loadAt T_sl_int (.pointer (some (a2.add 1)))) w fun (s3 : Sl) =>
     RunQ .addr P (Instr.indexAt T_sl_int s3.v (.int .i64 0)) w fun (a4 : Addr) =>
      RunQ (.int .i64) P (Instr.loadAt T_int (.pointer (some a4))) w fun (n5 : Int) =>
       R (.int .i64 n5) w)
def an_ref08_Log_Start : Ann := ⟨[], [], []⟩
theorem e_ref08_Log_Start (R : Value → World → Prop) (x0 : Option Addr) (w : World) : denF P an_ref08_Log_Start Tryz.f48 [.pointer x0] w R = S_ref08_Log_Start R x0 w := by kernel_rfl
theorem c_ref08_Log_Start {R : Value → World → Prop} {x0 : Option Addr} {w : World} (h : S_ref08_Log_Start R x0 w) : CallP P F_ref08_Log_Start [.pointer x0] w R := calls_of_denF (an := an_ref08_Log_Start) Tryz.func48 (by rw [e_ref08_Log_Start]; exact h)


/-- penstock/penstockref07.Size -/
def S_ref07_Size (R : Value → World → Prop) (x0 : Value) (w : World) : Prop :=
 RunK .addr P (Instr.box T_api_Batch x0) w fun (a0 : Addr) w1 =>
 RunQ .bool P (Instr.loadAt T_bool (.pointer (some (Go.Addr.add a0 6)))) w1 fun (b2 : Bool) =>
  ifB b2
   (R (.int .i64 1) w1)
   (RunQ .sl P (Instr.loadAt T_sl_sl_uint8 (.pointer (some (Go.Addr.add a0 8)))) w1 fun (s3 : Sl) =>
    R (.int .i64 ((↑s3.len : Int))) w1)
def an_ref07_Size : Ann := ⟨[], [], []⟩
theorem e_ref07_Size (R : Value → World → Prop) (x0 : Value) (w : World) : denF P an_ref07_Size Tryz.f49 [x0] w R = S_ref07_Size R x0 w := by kernel_rfl
theorem c_ref07_Size {R : Value → World → Prop} {x0 : Value} {w : World} (h : S_ref07_Size R x0 w) : CallP P F_ref07_Size [x0] w R := calls_of_denF (an := an_ref07_Size) Tryz.func49 (by rw [e_ref07_Size]; exact h)


/-- penstock/penstockref07.DocCheck -/
def S_ref07_DocCheck (R : Value → World → Prop) (x0 : Value) (w : World) : Prop :=
 RunK .addr P (Instr.box T_api_Batch x0) w fun (a0 : Addr) w1 =>
 RunQ (.int .i64) P (Instr.loadAt T_int (.pointer (some (Go.Addr.add a0 0)))) w1 fun (n2 : Int) =>
  RunQ (.int .i64) P (Instr.loadAt T_int (.pointer (some (Go.Addr.add a0 1)))) w1 fun (n3 : Int) =>
   RunQ (.int .i64) P (Instr.loadAt T_int (.pointer (some (Go.Addr.add a0 3)))) w1 fun (n4 : Int) =>
    RunQ (.int .i64) P (Instr.loadAt T_int (.pointer (some (Go.Addr.add a0 4)))) w1 fun (n5 : Int) =>
     RunK .sl P (Instr.buildSlice T_sl_int 4 #[(0, (.int .i64 n2)), (1, (.int .i64 n3)), (2, (.int .i64 n4)), (3, (.int .i64 n5))]) w1 fun (s6 : Sl) w7 =>
      LoopP (T := Int × Unit) (some (0, ())) w7 fun next8 t9 w10 =>
       ifB (decide (t9.fst < (↑s6.len : Int)))
        (RunQ .addr P (Instr.indexAt T_sl_int s6.v (.int .i64 t9.fst)) w10 fun (a11 : Addr) =>
         RunQ (.int .i64) P (Instr.loadAt T_int (.pointer (some a11))) w10 fun (n12 : Int) =>
          ifB (decide (n12 < 0))
           (R (.int .i64 1) w10)
           (next8 (some ((IntKind.i64.wrap (t9.fst + 1)), ())) w10))
        (JoinP (T := Unit) (fun J13 =>
         RunQ (.int .i64) P (Instr.loadAt T_int (.pointer (some (Go.Addr.add a0 3)))) w10 fun (n16 : Int) =>
          ifB (decide (n16 > 1000))
           (R (.int .i64 1) w10)
           (RunQ (.int .u64) P (Instr.loadAt T_uint64 (.pointer (some (Go.Addr.add a0 2)))) w10 fun (n17 : Int) =>
            ifB (decide (n17 > 1000))
             (R (.int .i64 1) w10)
             (J13 (some ()) w10)))
         fun t14 w15 =>
         JoinP (T := Unit) (fun J18 =>
          RunQ .bool P (Instr.loadAt T_bool (.pointer (some (Go.Addr.add a0 6)))) w15 fun (b21 : Bool) =>
           ifB b21
            (RunQ .sl P (Instr.loadAt T_sl_sl_uint8 (.pointer (some (Go.Addr.add a0 8)))) w15 fun (s22 : Sl) =>
             ifB (decide ((↑s22.len : Int) > 0))
              (R (.int .i64 7) w15)
              (RunQ .bool P (Instr.loadAt T_bool (.pointer (some (Go.Addr.add a0 5)))) w15 fun (b23 : Bool) =>
               ifB (!b23)
                (R (.int .i64 7) w15)
                (RunQ (.int .u64) P (Instr.loadAt T_uint64 (.pointer (some (Go.Addr.add a0 2)))) w15 fun (n24 : Int) =>
                ifB (n24 == 0)
                (R (.int .i64 7) w15)
                (RunQ (.int .i64) P (Instr.loadAt T_int (.pointer (some (Go.Addr.add a0 4)))) w15 fun (n25 : Int) =>
                ifB (n25 != 0)
                (R (.int .i64 7) w15)
                (J18 (some ()) w15)))))
            (RunQ .sl P (Instr.loadAt T_sl_sl_uint8 (.pointer (some (Go.Addr.add a0 8)))) w15 fun (s26 : Sl) =>
             ifB ((↑s26.len : Int) == 0)
              (R (.int .i64 7) w15)
              (RunQ .bool P (Instr.loadAt T_bool (.pointer (some (Go.Addr.add a0 7)))) w15 fun (b27 : Bool) =>
               ifB b27
                (R (.int .i64 7) w15)
                (J18 (some ()) w15))))
          fun t19 w20 =>
          JoinP (T := Unit) (fun J28 =>
           RunQ (.int .u64) P (Instr.loadAt T_uint64 (.pointer (some (Go.Addr.add a0 2)))) w20 fun (n31 : Int) =>
            ifB (n31 == 0)
             (RunQ .bool P (Instr.loadAt T_bool (.pointer (some (Go.Addr.add a0 5)))) w20 fun (b32 : Bool) =>
              ifB b32
               (R (.int .i64 7) w20)
               (RunQ (.int .i64) P (Instr.loadAt T_int (.pointer (some (Go.Addr.add a0 3)))) w20 fun (n33 : Int) =>
                ifB (decide (n33 > 0))
                (R (.int .i64 7) w20)
                (RunQ (.int .i64) P (Instr.loadAt T_int (.pointer (some (Go.Addr.add a0 4)))) w20 fun (n34 : Int) =>
                ifB (decide (n34 > 0))
                (R (.int .i64 7) w20)
                (J28 (some ()) w20))))
             (J28 (some ()) w20))
           fun t29 w30 =>
           RunQ .sl P (Instr.loadAt T_sl_sl_uint8 (.pointer (some (Go.Addr.add a0 8)))) w30 fun (s35 : Sl) =>
            ifB (decide ((↑s35.len : Int) > 16))
             (R (.int .i64 2) w30)
             (LoopP (T := Int × Unit) (some (0, ())) w30 fun next36 t37 w38 =>
              RunQ .sl P (Instr.loadAt T_sl_sl_uint8 (.pointer (some (Go.Addr.add a0 8)))) w38 fun (s39 : Sl) =>
               ifB (decide (t37.fst < (↑s39.len : Int)))
                (RunQ .sl P (Instr.loadAt T_sl_sl_uint8 (.pointer (some (Go.Addr.add a0 8)))) w38 fun (s40 : Sl) =>
                RunQ .addr P (Instr.indexAt T_sl_sl_uint8 s40.v (.int .i64 t37.fst)) w38 fun (a41 : Addr) =>
                RunQ .sl P (Instr.loadAt T_sl_uint8 (.pointer (some a41))) w38 fun (s42 : Sl) =>
                ifB (decide ((↑s42.len : Int) > 64))
                (R (.int .i64 2) w38)
                (next36 (some ((IntKind.i64.wrap (t37.fst + 1)), ())) w38))
                (R (.int .i64 0) w38)))
def an_ref07_DocCheck : Ann := ⟨[(16, []), (14, []), (9, [])], [(2, [(16, (.int .i64))]), (19, [(5, (.int .i64))])], []⟩
theorem e_ref07_DocCheck (R : Value → World → Prop) (x0 : Value) (w : World) : denF P an_ref07_DocCheck Tryz.f55 [x0] w R = S_ref07_DocCheck R x0 w := by kernel_rfl
theorem c_ref07_DocCheck {R : Value → World → Prop} {x0 : Value} {w : World} (h : S_ref07_DocCheck R x0 w) : CallP P F_ref07_DocCheck [x0] w R := calls_of_denF (an := an_ref07_DocCheck) Tryz.func55 (by rw [e_ref07_DocCheck]; exact h)


/-- (*penstock/penstockref08.Log).bytes -/
def S_ref08_Log_bytes (R : Value → World → Prop) (x0 : Option Addr) (x1 : Int) (w : World) : Prop :=
 LoopP (T := Int × Int × Unit) (some (0, (0, ()))) w fun next0 t1 w2 =>
 nilCk x0 fun (a3 : Addr) =>
  RunQ .sl P (Instr.loadAt T_sl_api_Batch (.pointer (some (a3.add 0)))) w2 fun (s4 : Sl) =>
   ifB (decide (t1.snd.fst < (↑s4.len : Int)))
    (nilCk x0 fun (a5 : Addr) =>
     RunQ .sl P (Instr.loadAt T_sl_api_Batch (.pointer (some (a5.add 0)))) w2 fun (s6 : Sl) =>
      RunQ .addr P (Instr.indexAt T_sl_api_Batch s6.v (.int .i64 t1.snd.fst)) w2 fun (a7 : Addr) =>
       RunQ (.int .i64) P (Instr.loadAt T_int (.pointer (some (Go.Addr.add a7 0)))) w2 fun (n8 : Int) =>
        ifB (decide (n8 ≥ x1))
         (nilCk x0 fun (a9 : Addr) =>
          RunQ .sl P (Instr.loadAt T_sl_api_Batch (.pointer (some (a9.add 0)))) w2 fun (s10 : Sl) =>
           RunQ .addr P (Instr.indexAt T_sl_api_Batch s10.v (.int .i64 t1.snd.fst)) w2 fun (a11 : Addr) =>
            RunQ .val P (Instr.loadAt T_api_Batch (.pointer (some a11))) w2 fun (v12 : Value) =>
             CallP P F_ref07_DocEncode [v12] w2 fun (v13 : Value) w14 =>
              TupP [.sl, (.int .i64)] v13 fun (t15 : Sl × Int × Unit) =>
               CallP P F_ref04_DocEncode [t15.fst.v] w14 fun (v16 : Value) w17 =>
                TupP [.sl, (.int .i64)] v16 fun (t18 : Sl × Int × Unit) =>
                next0 (some ((IntKind.i64.wrap (t1.fst + (↑t18.fst.len : Int))), ((IntKind.i64.wrap (t1.snd.fst + 1)), ()))) w17)
         (next0 (some (t1.fst, ((IntKind.i64.wrap (t1.snd.fst + 1)), ()))) w2))
    (R (.int .i64 t1.fst) w2)
def an_ref08_Log_bytes : Ann := ⟨[], [(3, [(5, (.int .i64)), (6, (.int .i64))])], []⟩
theorem e_ref08_Log_bytes (R : Value → World → Prop) (x0 : Option Addr) (x1 : Int) (w : World) : denF P an_ref08_Log_bytes Tryz.f56 [.pointer x0, .int .i64 x1] w R = S_ref08_Log_bytes R x0 x1 w := by kernel_rfl
theorem c_ref08_Log_bytes {R : Value → World → Prop} {x0 : Option Addr} {x1 : Int} {w : World} (h : S_ref08_Log_bytes R x0 x1 w) : CallP P F_ref08_Log_bytes [.pointer x0, .int .i64 x1] w R := calls_of_denF (an := an_ref08_Log_bytes) Tryz.func56 (by rw [e_ref08_Log_bytes]; exact h)


/-- penstock/penstockref07.Same -/
def S_ref07_Same (R : Value → World → Prop) (x0 : Value) (x1 : Value) (w : World) : Prop :=
 RunK .addr P (Instr.box T_api_Batch x0) w fun (a0 : Addr) w1 =>
 RunK .addr P (Instr.box T_api_Batch x1) w1 fun (a2 : Addr) w3 =>
  JoinP (T := Unit) (fun J4 =>
   RunQ (.int .i64) P (Instr.loadAt T_int (.pointer (some (Go.Addr.add a0 0)))) w3 fun (n7 : Int) =>
    RunQ (.int .i64) P (Instr.loadAt T_int (.pointer (some (Go.Addr.add a2 0)))) w3 fun (n8 : Int) =>
     ifB (n7 != n8)
      (R (.bool false) w3)
      (RunQ (.int .i64) P (Instr.loadAt T_int (.pointer (some (Go.Addr.add a0 1)))) w3 fun (n9 : Int) =>
       RunQ (.int .i64) P (Instr.loadAt T_int (.pointer (some (Go.Addr.add a2 1)))) w3 fun (n10 : Int) =>
        ifB (n9 != n10)
         (R (.bool false) w3)
         (RunQ (.int .u64) P (Instr.loadAt T_uint64 (.pointer (some (Go.Addr.add a0 2)))) w3 fun (n11 : Int) =>
          RunQ (.int .u64) P (Instr.loadAt T_uint64 (.pointer (some (Go.Addr.add a2 2)))) w3 fun (n12 : Int) =>
           ifB (n11 != n12)
            (R (.bool false) w3)
            (RunQ (.int .i64) P (Instr.loadAt T_int (.pointer (some (Go.Addr.add a0 3)))) w3 fun (n13 : Int) =>
             RunQ (.int .i64) P (Instr.loadAt T_int (.pointer (some (Go.Addr.add a2 3)))) w3 fun (n14 : Int) =>
              ifB (n13 != n14)
               (R (.bool false) w3)
               (RunQ (.int .i64) P (Instr.loadAt T_int (.pointer (some (Go.Addr.add a0 4)))) w3 fun (n15 : Int) =>
                RunQ (.int .i64) P (Instr.loadAt T_int (.pointer (some (Go.Addr.add a2 4)))) w3 fun (n16 : Int) =>
                ifB (n15 != n16)
                (R (.bool false) w3)
                (RunQ .bool P (Instr.loadAt T_bool (.pointer (some (Go.Addr.add a0 5)))) w3 fun (b17 : Bool) =>
                RunQ .bool P (Instr.loadAt T_bool (.pointer (some (Go.Addr.add a2 5)))) w3 fun (b18 : Bool) =>
                ifB (!b17 == b18)
                (R (.bool false) w3)
                (RunQ .bool P (Instr.loadAt T_bool (.pointer (some (Go.Addr.add a0 6)))) w3 fun (b19 : Bool) =>
                RunQ .bool P (Instr.loadAt T_bool (.pointer (some (Go.Addr.add a2 6)))) w3 fun (b20 : Bool) =>
                ifB (!b19 == b20)
                (R (.bool false) w3)
                (RunQ .bool P (Instr.loadAt T_bool (.pointer (some (Go.Addr.add a0 7)))) w3 fun (b21 : Bool) =>
                RunQ .bool P (Instr.loadAt T_bool (.pointer (some (Go.Addr.add a2 7)))) w3 fun (b22 : Bool) =>
                ifB (!b21 == b22)
                (R (.bool false) w3)
                (RunQ .sl P (Instr.loadAt T_sl_sl_uint8 (.pointer (some (Go.Addr.add a0 8)))) w3 fun (s23 : Sl) =>
                RunQ .sl P (Instr.loadAt T_sl_sl_uint8 (.pointer (some (Go.Addr.add a2 8)))) w3 fun (s24 : Sl) =>
                ifB ((↑s23.len : Int) != (↑s24.len : Int))
                (R (.bool false) w3)
                (J4 (some ()) w3))))))))))
   fun t5 w6 =>
   LoopP (T := Int × Unit) (some (0, ())) w6 fun next25 t26 w27 =>
    RunQ .sl P (Instr.loadAt T_sl_sl_uint8 (.pointer (some (Go.Addr.add a0 8)))) w27 fun (s28 : Sl) =>
     ifB (decide (t26.fst < (↑s28.len : Int)))
      (∃ S29 : World → Prop, (S29 w27.drew) ∧
        HRun S29 .sl P (Instr.loadAt T_sl_sl_uint8 (.pointer (some (Go.Addr.add a0 8)))) fun (s30 : Sl) =>
         HRun S29 .addr P (Instr.indexAt T_sl_sl_uint8 s30.v (.int .i64 t26.fst)) fun (a31 : Addr) =>
          HRun S29 .sl P (Instr.loadAt T_sl_uint8 (.pointer (some a31))) fun (s32 : Sl) =>
           HRun S29 .sl P (Instr.loadAt T_sl_sl_uint8 (.pointer (some (Go.Addr.add a2 8)))) fun (s33 : Sl) =>
            HRun S29 .addr P (Instr.indexAt T_sl_sl_uint8 s33.v (.int .i64 t26.fst)) fun (a34 : Addr) =>
             HRun S29 .sl P (Instr.loadAt T_sl_uint8 (.pointer (some a34))) fun (s35 : Sl) =>
              CallP P F_ref03_Same [s32.v, s35.v] w27.drew fun (v36 : Value) w37 =>
               TyP .bool v36 fun (b38 : Bool) =>
                (S29 w37) ∧
                ifB (!b38)
                (R (.bool false) w37)
                (next25 (some ((IntKind.i64.wrap (t26.fst + 1)), ())) w37))
      (R (.bool true) w27)
def an_ref07_Same : Ann := ⟨[(3, [])], [(4, [(5, (.int .i64))])], []⟩
theorem e_ref07_Same (R : Value → World → Prop) (x0 : Value) (x1 : Value) (w : World) : denF P an_ref07_Same Tryz.f59 [x0, x1] w R = S_ref07_Same R x0 x1 w := by kernel_rfl
theorem c_ref07_Same {R : Value → World → Prop} {x0 : Value} {x1 : Value} {w : World} (h : S_ref07_Same R x0 x1 w) : CallP P F_ref07_Same [x0, x1] w R := calls_of_denF (an := an_ref07_Same) Tryz.func59 (by rw [e_ref07_Same]; exact h)


/-- penstock/penstockref03.Int -/
def S_ref03_Int (R : Value → World → Prop) (x0 : Int) (w : World) : Prop :=
 CallP P F_ref03_Zig [(.int .i64 x0)] w fun (v0 : Value) w1 =>
 TyP (.int .u64) v0 fun (n2 : Int) =>
  CallP P F_ref03_Uint [(.int .u64 n2)] w1 fun (v3 : Value) w4 =>
   TyP .sl v3 fun (s5 : Sl) =>
    R s5.v w4
def an_ref03_Int : Ann := ⟨[], [], []⟩
theorem e_ref03_Int (R : Value → World → Prop) (x0 : Int) (w : World) : denF P an_ref03_Int Tryz.f62 [.int .i64 x0] w R = S_ref03_Int R x0 w := by kernel_rfl
theorem c_ref03_Int {R : Value → World → Prop} {x0 : Int} {w : World} (h : S_ref03_Int R x0 w) : CallP P F_ref03_Int [.int .i64 x0] w R := calls_of_denF (an := an_ref03_Int) Tryz.func62 (by rw [e_ref03_Int]; exact h)


/-- penstock/penstockref03.Uint -/
def S_ref03_Uint (R : Value → World → Prop) (x0 : Int) (w : World) : Prop :=
 LoopP (T := Int × Sl × Unit) (some (x0, (⟨none, 0, 0⟩, ()))) w fun next0 t1 w2 =>
 ifB (IntKind.u64.wrap (Int.tdiv t1.fst 128) == 0)
  (RunK .sl P (Instr.buildSlice T_sl_uint8 1 #[(0, (.int .u8 (IntKind.u8.wrap (Int.tmod t1.fst 128))))]) w2 fun (s3 : Sl) w4 =>
   RunK .sl P (Builtin.append_ #[T_sl_uint8, T_sl_uint8] T_sl_uint8 #[t1.snd.fst.v, s3.v]) w4 fun (s5 : Sl) w6 =>
    R s5.v w6)
  (RunK .sl P (Instr.buildSlice T_sl_uint8 1 #[(0, (.int .u8 (IntKind.u8.wrap (IntKind.u64.wrap (Int.tmod t1.fst 128 + 128)))))]) w2 fun (s7 : Sl) w8 =>
   RunK .sl P (Builtin.append_ #[T_sl_uint8, T_sl_uint8] T_sl_uint8 #[t1.snd.fst.v, s7.v]) w8 fun (s9 : Sl) w10 =>
    next0 (some ((IntKind.u64.wrap (Int.tdiv t1.fst 128)), (s9, ()))) w10)
def an_ref03_Uint : Ann := ⟨[], [(2, [(0, (.int .u64)), (3, .sl)])], []⟩
theorem e_ref03_Uint (R : Value → World → Prop) (x0 : Int) (w : World) : denF P an_ref03_Uint Tryz.f63 [.int .u64 x0] w R = S_ref03_Uint R x0 w := by kernel_rfl
theorem c_ref03_Uint {R : Value → World → Prop} {x0 : Int} {w : World} (h : S_ref03_Uint R x0 w) : CallP P F_ref03_Uint [.int .u64 x0] w R := calls_of_denF (an := an_ref03_Uint) Tryz.func63 (by rw [e_ref03_Uint]; exact h)


/-- penstock/penstockref03.Flag -/
def S_ref03_Flag (R : Value → World → Prop) (x0 : Bool) (w : World) : Prop :=
 ifB x0
 (RunK .sl P (Instr.buildSlice T_sl_uint8 1 #[(0, (.int .u8 1))]) w fun (s0 : Sl) w1 =>
  R s0.v w1)
 (RunK .sl P (Instr.buildSlice T_sl_uint8 1 #[(0, (.int .u8 0))]) w fun (s2 : Sl) w3 =>
  R s2.v w3)
def an_ref03_Flag : Ann := ⟨[], [], []⟩
theorem e_ref03_Flag (R : Value → World → Prop) (x0 : Bool) (w : World) : denF P an_ref03_Flag Tryz.f64 [.bool x0] w R = S_ref03_Flag R x0 w := by kernel_rfl
theorem c_ref03_Flag {R : Value → World → Prop} {x0 : Bool} {w : World} (h : S_ref03_Flag R x0 w) : CallP P F_ref03_Flag [.bool x0] w R := calls_of_denF (an := an_ref03_Flag) Tryz.func64 (by rw [e_ref03_Flag]; exact h)


/-- penstock/penstockref03.Bytes -/
def S_ref03_Bytes (R : Value → World → Prop) (x0 : Sl) (w : World) : Prop :=
 CallP P F_ref03_Uint [(.int .u64 (IntKind.u64.wrap (↑x0.len : Int)))] w fun (v0 : Value) w1 =>
 TyP .sl v0 fun (s2 : Sl) =>
  RunK .sl P (Builtin.append_ #[T_sl_uint8, T_sl_uint8] T_sl_uint8 #[s2.v, x0.v]) w1 fun (s3 : Sl) w4 =>
   R s3.v w4
def an_ref03_Bytes : Ann := ⟨[], [], []⟩
theorem e_ref03_Bytes (R : Value → World → Prop) (x0 : Sl) (w : World) : denF P an_ref03_Bytes Tryz.f65 [x0.v] w R = S_ref03_Bytes R x0 w := by kernel_rfl
theorem c_ref03_Bytes {R : Value → World → Prop} {x0 : Sl} {w : World} (h : S_ref03_Bytes R x0 w) : CallP P F_ref03_Bytes [x0.v] w R := calls_of_denF (an := an_ref03_Bytes) Tryz.func65 (by rw [e_ref03_Bytes]; exact h)


/-- penstock/penstockref03.Fixed -/
def S_ref03_Fixed (R : Value → World → Prop) (x0 : Int) (w : World) : Prop :=
 RunK .sl P (Instr.buildSlice T_sl_uint8 4 #[(0, (.int .u8 (IntKind.u8.wrap (Int.tmod x0 256)))), (1, (.int .u8 (IntKind.u8.wrap ((IntKind.u32.wrap (Int.tdiv x0 256)).tmod 256)))), (2, (.int .u8 (IntKind.u8.wrap ((IntKind.u32.wrap (Int.tdiv x0 65536)).tmod 256)))), (3, (.int .u8 (IntKind.u8.wrap (IntKind.u32.wrap (Int.tdiv x0 16777216)))))]) w fun (s0 : Sl) w1 =>
 R s0.v w1
def an_ref03_Fixed : Ann := ⟨[], [], []⟩
theorem e_ref03_Fixed (R : Value → World → Prop) (x0 : Int) (w : World) : denF P an_ref03_Fixed Tryz.f66 [.int .u32 x0] w R = S_ref03_Fixed R x0 w := by kernel_rfl
theorem c_ref03_Fixed {R : Value → World → Prop} {x0 : Int} {w : World} (h : S_ref03_Fixed R x0 w) : CallP P F_ref03_Fixed [.int .u32 x0] w R := calls_of_denF (an := an_ref03_Fixed) Tryz.func66 (by rw [e_ref03_Fixed]; exact h)


/-- penstock/penstockref02.More -/
def S_ref02_More (R : Value → World → Prop) (x0 : Int) (x1 : Sl) (w : World) : Prop :=
 LoopP (T := Int × Int × Unit) (some ((IntKind.u32.wrap (↑(BitVec.ofInt 32 (if IntKind.u32.signed = true then -1 else IntKind.u32.max) ^^^ BitVec.ofInt 32 x0).toNat : Int)), (0, ()))) w fun next0 t1 w2 =>
 ifB (decide (t1.snd.fst < (↑x1.len : Int)))
  (LoopP (T := Int × Int × Unit) (some (t1.fst, (0, ()))) w2 fun next3 t4 w5 =>
   ifB (decide (t4.snd.fst < 8))
    (RunQ .addr P (Instr.indexAt T_sl_uint8 x1.v (.int .i64 t1.snd.fst)) w5 fun (a6 : Addr) =>
     RunQ (.int .u8) P (Instr.loadAt T_uint8 (.pointer (some a6))) w5 fun (n7 : Int) =>
      RunK (.int .u8) P (do (eqGuard .shr T_uint8 (.tmp 0) (.tmp 0) (.int .u8 n7) (.int .u64 (IntKind.u64.wrap t4.snd.fst))); (binOp .shr T_uint8 (.int .u8 n7) (.int .u64 (IntKind.u64.wrap t4.snd.fst)))) w5 fun (n8 : Int) w9 =>
       ifB (IntKind.u32.wrap (↑(BitVec.ofInt 32 (IntKind.u32.wrap (↑(BitVec.ofInt 32 t4.fst &&& BitVec.ofInt 32 1).toNat : Int)) ^^^ BitVec.ofInt 32 (IntKind.u32.wrap (↑(BitVec.ofInt 32 (IntKind.u32.wrap n8) &&& BitVec.ofInt 32 1).toNat : Int))).toNat : Int) == 1)
        (next3 (some ((IntKind.u32.wrap (↑(BitVec.ofInt 32 (Int.fdiv t4.fst (2 ^ 1)) ^^^ BitVec.ofInt 32 2197175160).toNat : Int)), ((IntKind.i64.wrap (t4.snd.fst + 1)), ()))) w9)
        (next3 (some ((Int.fdiv t4.fst (2 ^ 1)), ((IntKind.i64.wrap (t4.snd.fst + 1)), ()))) w9))
    (next0 (some (t4.fst, ((IntKind.i64.wrap (t1.snd.fst + 1)), ()))) w5))
  (R (.int .u32 (IntKind.u32.wrap (↑(BitVec.ofInt 32 (if IntKind.u32.signed = true then -1 else IntKind.u32.max) ^^^ BitVec.ofInt 32 t1.fst).toNat : Int))) w2)
def an_ref02_More : Ann := ⟨[], [(6, [(5, (.int .u32)), (7, (.int .i64))]), (3, [(5, (.int .u32)), (6, (.int .i64))])], []⟩
theorem e_ref02_More (R : Value → World → Prop) (x0 : Int) (x1 : Sl) (w : World) : denF P an_ref02_More Tryz.f67 [.int .u32 x0, x1.v] w R = S_ref02_More R x0 x1 w := by kernel_rfl
theorem c_ref02_More {R : Value → World → Prop} {x0 : Int} {x1 : Sl} {w : World} (h : S_ref02_More R x0 x1 w) : CallP P F_ref02_More [.int .u32 x0, x1.v] w R := calls_of_denF (an := an_ref02_More) Tryz.func67 (by rw [e_ref02_More]; exact h)


/-- (*penstock/penstockref03.Reader).Fixed -/
def S_ref03_Reader_Fixed (R : Value → World → Prop) (x0 : Option Addr) (w : World) : Prop :=
 nilCk x0 fun (a0 : Addr) =>
 RunQ (.int .i64) P (Instr.loadAt T_int (.pointer (some (a0.add 2)))) w fun (n1 : Int) =>
  ifB (n1 != 0)
   (R (.int .u32 0) w)
   (nilCk x0 fun (a2 : Addr) =>
    RunQ (.int .i64) P (Instr.loadAt T_int (.pointer (some (a2.add 1)))) w.drew fun (n3 : Int) =>
     nilCk x0 fun (a4 : Addr) =>
      RunQ .sl P (Instr.loadAt T_sl_uint8 (.pointer (some (a4.add 0)))) w.drew fun (s5 : Sl) =>
       ifB (decide (IntKind.i64.wrap (n3 + 4) > (↑s5.len : Int)))
        (CallP P F_ref03_Reader_fail [(.pointer x0), (.int .i64 6)] w.drew fun (v6 : Value) w7 =>
         TupP [] v6 fun (t8 : Unit) =>
          R (.int .u32 0) w7)
        (LoopP (T := Int × Int × Unit) (some (0, (3, ()))) w.drew fun next9 t10 w11 =>
         ifB (decide (t10.snd.fst ≥ 0))
          (nilCk x0 fun (a12 : Addr) =>
           RunQ .sl P (Instr.loadAt T_sl_uint8 (.pointer (some (a12.add 0)))) w11.drew fun (s13 : Sl) =>
            nilCk x0 fun (a14 : Addr) =>
             RunQ (.int .i64) P (Instr.loadAt T_int (.pointer (some (a14.add 1)))) w11.drew fun (n15 : Int) =>
              RunQ .addr P (Instr.indexAt T_sl_uint8 s13.v (.int .i64 (IntKind.i64.wrap (n15 + t10.snd.fst)))) w11.drew fun (a16 : Addr) =>
               RunQ (.int .u8) P (Instr.loadAt T_uint8 (.pointer (some a16))) w11.drew fun (n17 : Int) =>
                next9 (some ((IntKind.u32.wrap (IntKind.u32.wrap (256 * t10.fst) + IntKind.u32.wrap n17)), ((IntKind.i64.wrap (t10.snd.fst - 1)), ()))) w11.drew)
          (nilCk x0 fun (a18 : Addr) =>
           RunQ (.int .i64) P (Instr.loadAt T_int (.pointer (some (a18.add 1)))) w11 fun (n19 : Int) =>
            nilCk x0 fun (a20 : Addr) =>
             StoreP P T_int (.pointer (some (a20.add 1))) (.int .i64 (IntKind.i64.wrap (n19 + 4))) w11 fun w21 =>
              R (.int .u32 t10.fst) w21)))
def an_ref03_Reader_Fixed : Ann := ⟨[], [(8, [(3, (.int .u32)), (4, (.int .i64))])], []⟩
theorem e_ref03_Reader_Fixed (R : Value → World → Prop) (x0 : Option Addr) (w : World) : denF P an_ref03_Reader_Fixed Tryz.f68 [.pointer x0] w R = S_ref03_Reader_Fixed R x0 w := by kernel_rfl
theorem c_ref03_Reader_Fixed {R : Value → World → Prop} {x0 : Option Addr} {w : World} (h : S_ref03_Reader_Fixed R x0 w) : CallP P F_ref03_Reader_Fixed [.pointer x0] w R := calls_of_denF (an := an_ref03_Reader_Fixed) Tryz.func68 (by rw [e_ref03_Reader_Fixed]; exact h)


/-- penstock/penstockref03.Zig -/
def S_ref03_Zig (R : Value → World → Prop) (x0 : Int) (w : World) : Prop :=
 ifB (decide (x0 ≥ 0))
 (R (.int .u64 (IntKind.u64.wrap (2 * IntKind.u64.wrap x0))) w)
 (R (.int .u64 (IntKind.u64.wrap (IntKind.u64.wrap (2 * IntKind.u64.wrap (IntKind.i64.wrap (0 - IntKind.i64.wrap (x0 + 1)))) + 1))) w)
def an_ref03_Zig : Ann := ⟨[], [], []⟩
theorem e_ref03_Zig (R : Value → World → Prop) (x0 : Int) (w : World) : denF P an_ref03_Zig Tryz.f92 [.int .i64 x0] w R = S_ref03_Zig R x0 w := by kernel_rfl
theorem c_ref03_Zig {R : Value → World → Prop} {x0 : Int} {w : World} (h : S_ref03_Zig R x0 w) : CallP P F_ref03_Zig [.int .i64 x0] w R := calls_of_denF (an := an_ref03_Zig) Tryz.func92 (by rw [e_ref03_Zig]; exact h)


/-- (*penstock/penstockref03.Reader).fail -/
def S_ref03_Reader_fail (R : Value → World → Prop) (x0 : Option Addr) (x1 : Int) (w : World) : Prop :=
 nilCk x0 fun (a0 : Addr) =>
 RunQ (.int .i64) P (Instr.loadAt T_int (.pointer (some (a0.add 2)))) w fun (n1 : Int) =>
  ifB (n1 == 0)
   (nilCk x0 fun (a2 : Addr) =>
    StoreP P T_int (.pointer (some (a2.add 2))) (.int .i64 x1) w fun w3 =>
     R (.tuple #[]) w3)
   (R (.tuple #[]) w)
def an_ref03_Reader_fail : Ann := ⟨[], [], []⟩
theorem e_ref03_Reader_fail (R : Value → World → Prop) (x0 : Option Addr) (x1 : Int) (w : World) : denF P an_ref03_Reader_fail Tryz.f93 [.pointer x0, .int .i64 x1] w R = S_ref03_Reader_fail R x0 x1 w := by kernel_rfl
theorem c_ref03_Reader_fail {R : Value → World → Prop} {x0 : Option Addr} {x1 : Int} {w : World} (h : S_ref03_Reader_fail R x0 x1 w) : CallP P F_ref03_Reader_fail [.pointer x0, .int .i64 x1] w R := calls_of_denF (an := an_ref03_Reader_fail) Tryz.func93 (by rw [e_ref03_Reader_fail]; exact h)

end Go.Proofs.YtbpcichakchpkaaGreatDoor
