/- The functions of the program as predicates over worlds, written by a program of mine (PkPrint); each is held against the code by the kernel. -/
import Derived.Test.YtbpcichakchpkaaGreatDoorN
namespace Go.Proofs.YtbpcichakchpkaaGreatDoor
open Go Go.Pk
/-- penstock/penstocklaw08.SegReads -/
def S_law08_SegReads (R : Value → World → Prop) (x0 : Sl) (x1 : Int) (x2 : Int) (w : World) : Prop :=
 CallP P F_disk_New [] w fun (v0 : Value) w1 =>
 TyP .ptr v0 fun (p2 : Option Addr) =>
  CallP P F_seglog_Open [(.pointer p2), (.string (ByteArray.mk #[108, 111, 103]))] w1 fun (v3 : Value) w4 =>
   TupP [.ptr, (.int .i64)] v3 fun (t5 : Option Addr × Int × Unit) =>
    RunK .addr P (Instr.box T_penstockref08_Log (.agg #[(.slice none 0 0), (.slice none 0 0), (.int .i64 0)])) w4 fun (a6 : Addr) w7 =>
     JoinP (T := Unit) (fun J8 =>
      CallP P F_law08_awake [] w7 fun (v11 : Value) w12 =>
       TyP .bool v11 fun (b13 : Bool) =>
        ifB (!b13)
         (R (.bool false) w12)
         (ifB (Option.isNone t5.fst)
          (R (.bool false) w12)
          (ifB (t5.snd.fst != 0)
           (R (.bool false) w12)
           (J8 (some ()) w12))))
      fun t9 w10 =>
      LoopP (T := Int × Unit) (some (0, ())) w10 fun next14 t15 w16 =>
       ifB (decide (t15.fst < (↑x0.len : Int)))
        (RunQ .addr P (Instr.indexAt T_sl_api_Batch x0.v (.int .i64 t15.fst)) w16 fun (a17 : Addr) =>
         RunQ .val P (Instr.loadAt T_api_Batch (.pointer (some a17))) w16 fun (v18 : Value) =>
          RunK .addr P (Instr.alloc T_api_Batch true (.tuple #[])) w16 fun (a19 : Addr) w20 =>
           StoreP P T_api_Batch (.pointer (some a19)) v18 w20 fun w21 =>
            CallP P F_ref08_Log_End [(.pointer (some a6))] w21 fun (v22 : Value) w23 =>
             TyP (.int .i64) v22 fun (n24 : Int) =>
              StoreP P T_int (.pointer (some (Go.Addr.add a19 0))) (.int .i64 n24) w23 fun w25 =>
               RunQ .val P (Instr.loadAt T_api_Batch (.pointer (some a19))) w25 fun (v26 : Value) =>
                CallP P F_ref07_Copy [v26] w25 fun (v27 : Value) w28 =>
                TyP .val v27 fun (v29 : Value) =>
                CallP P F_seglog_Log_Put [(.pointer t5.fst), v29] w28 fun (v30 : Value) w31 =>
                TyP (.int .i64) v30 fun (n32 : Int) =>
                ifB (n32 == 3)
                (R (.bool true) w31)
                (RunQ .val P (Instr.loadAt T_api_Batch (.pointer (some a19))) w31 fun (v33 : Value) =>
                CallP P F_ref08_Log_Put [(.pointer (some a6)), v33] w31 fun (v34 : Value) w35 =>
                TyP (.int .i64) v34 fun (n36 : Int) =>
                ifB (n32 != n36)
                (R (.bool false) w35)
                (next14 (some ((IntKind.i64.wrap (t15.fst + 1)), ())) w35)))
        (LoopP (T := Int × Unit) (some (0, ())) w16 fun next37 t38 w39 =>
         ifB (decide (t38.fst < 2))
          (CallP P F_seglog_Log_Read [(.pointer t5.fst), (.int .i64 x1), (.int .i64 x2)] w39 fun (v40 : Value) w41 =>
           TyP .sl v40 fun (s42 : Sl) =>
            CallP P F_ref08_Log_Read [(.pointer (some a6)), (.int .i64 x1), (.int .i64 x2)] w41 fun (v43 : Value) w44 =>
             TyP .sl v43 fun (s45 : Sl) =>
              CallP P F_ref07_SameList [s42.v, s45.v] w44 fun (v46 : Value) w47 =>
               TyP .bool v46 fun (b48 : Bool) =>
                ifB (!b48)
                (R (.bool false) w47)
                (LoopP (T := Int × Unit) (some (0, ())) w47 fun next49 t50 w51 =>
                ifB (decide (t50.fst < (↑s42.len : Int)))
                (RunQ .addr P (Instr.indexAt T_sl_api_Batch s42.v (.int .i64 t50.fst)) w51 fun (a52 : Addr) =>
                RunQ .val P (Instr.loadAt T_api_Batch (.pointer (some a52))) w51 fun (v53 : Value) =>
                RunK .addr P (Instr.alloc T_api_Batch true (.tuple #[])) w51 fun (a54 : Addr) w55 =>
                StoreP P T_api_Batch (.pointer (some a54)) v53 w55 fun w56 =>
                RunQ .sl P (Instr.loadAt T_sl_sl_uint8 (.pointer (some (Go.Addr.add a54 8)))) w56 fun (s57 : Sl) =>
                LoopP (T := Int × Unit) (some (0, ())) w56 fun next58 t59 w60 =>
                ifB (decide (t59.fst < (↑s57.len : Int)))
                (RunQ .addr P (Instr.indexAt T_sl_sl_uint8 s57.v (.int .i64 t59.fst)) w60 fun (a61 : Addr) =>
                RunQ .sl P (Instr.loadAt T_sl_uint8 (.pointer (some a61))) w60 fun (s62 : Sl) =>
                LoopP (T := Int × Unit) (some (0, ())) w60 fun next63 t64 w65 =>
                ifB (decide (t64.fst < (↑s62.len : Int)))
                (RunQ .addr P (Instr.indexAt T_sl_uint8 s62.v (.int .i64 t64.fst)) w65 fun (a66 : Addr) =>
                StoreP P T_uint8 (.pointer (some a66)) (.int .u8 1) w65 fun w67 =>
                next63 (some ((IntKind.i64.wrap (t64.fst + 1)), ())) w67)
                (next58 (some ((IntKind.i64.wrap (t59.fst + 1)), ())) w65))
                (next49 (some ((IntKind.i64.wrap (t50.fst + 1)), ())) w60))
                (next37 (some ((IntKind.i64.wrap (t38.fst + 1)), ())) w51)))
          (R (.bool true) w39))
def an_law08_SegReads : Ann := ⟨[(6, [])], [(7, [(41, (.int .i64))]), (29, [(90, (.int .i64))]), (26, [(84, (.int .i64))]), (23, [(77, (.int .i64))]), (17, [(14, (.int .i64))])], []⟩
theorem e_law08_SegReads (R : Value → World → Prop) (x0 : Sl) (x1 : Int) (x2 : Int) (w : World) : denF P an_law08_SegReads Tryz.f3 [x0.v, .int .i64 x1, .int .i64 x2] w R = S_law08_SegReads R x0 x1 x2 w := by kernel_rfl
theorem c_law08_SegReads {R : Value → World → Prop} {x0 : Sl} {x1 : Int} {x2 : Int} {w : World} (h : S_law08_SegReads R x0 x1 x2 w) : CallP P F_law08_SegReads [x0.v, .int .i64 x1, .int .i64 x2] w R := calls_of_denF (an := an_law08_SegReads) Tryz.func3 (by rw [e_law08_SegReads]; exact h)


/-- penstock/penstocklaw08.SegFiles -/
def S_law08_SegFiles (R : Value → World → Prop) (x0 : Sl) (w : World) : Prop :=
 CallP P F_disk_New [] w fun (v0 : Value) w1 =>
 TyP .ptr v0 fun (p2 : Option Addr) =>
  CallP P F_seglog_Open [(.pointer p2), (.string (ByteArray.mk #[112, 51]))] w1 fun (v3 : Value) w4 =>
   TupP [.ptr, (.int .i64)] v3 fun (t5 : Option Addr × Int × Unit) =>
    RunK .addr P (Instr.box T_penstockref08_Log (.agg #[(.slice none 0 0), (.slice none 0 0), (.int .i64 0)])) w4 fun (a6 : Addr) w7 =>
     JoinP (T := Unit) (fun J8 =>
      CallP P F_law08_awake [] w7 fun (v11 : Value) w12 =>
       TyP .bool v11 fun (b13 : Bool) =>
        ifB (!b13)
         (R (.bool false) w12)
         (ifB (Option.isNone t5.fst)
          (R (.bool false) w12)
          (ifB (t5.snd.fst != 0)
           (R (.bool false) w12)
           (J8 (some ()) w12))))
      fun t9 w10 =>
      LoopP (T := Int × Unit) (some (0, ())) w10 fun next14 t15 w16 =>
       ifB (decide (t15.fst < (↑x0.len : Int)))
        (RunQ .addr P (Instr.indexAt T_sl_api_Batch x0.v (.int .i64 t15.fst)) w16 fun (a17 : Addr) =>
         RunQ .val P (Instr.loadAt T_api_Batch (.pointer (some a17))) w16 fun (v18 : Value) =>
          RunK .addr P (Instr.alloc T_api_Batch true (.tuple #[])) w16 fun (a19 : Addr) w20 =>
           StoreP P T_api_Batch (.pointer (some a19)) v18 w20 fun w21 =>
            CallP P F_ref08_Log_End [(.pointer (some a6))] w21 fun (v22 : Value) w23 =>
             TyP (.int .i64) v22 fun (n24 : Int) =>
              StoreP P T_int (.pointer (some (Go.Addr.add a19 0))) (.int .i64 n24) w23 fun w25 =>
               RunQ .val P (Instr.loadAt T_api_Batch (.pointer (some a19))) w25 fun (v26 : Value) =>
                CallP P F_ref07_Copy [v26] w25 fun (v27 : Value) w28 =>
                TyP .val v27 fun (v29 : Value) =>
                CallP P F_seglog_Log_Put [(.pointer t5.fst), v29] w28 fun (v30 : Value) w31 =>
                TyP (.int .i64) v30 fun (n32 : Int) =>
                ifB (n32 == 3)
                (R (.bool true) w31)
                (RunQ .val P (Instr.loadAt T_api_Batch (.pointer (some a19))) w31 fun (v33 : Value) =>
                CallP P F_ref08_Log_Put [(.pointer (some a6)), v33] w31 fun (v34 : Value) w35 =>
                TyP (.int .i64) v34 fun (n36 : Int) =>
                ifB (n32 != n36)
                (R (.bool false) w35)
                (next14 (some ((IntKind.i64.wrap (t15.fst + 1)), ())) w35)))
        (CallP P F_disk_Disk_Names [(.pointer p2)] w16 fun (v37 : Value) w38 =>
         TyP .sl v37 fun (s39 : Sl) =>
          RunQ .sl P (Instr.loadAt T_sl_int (.pointer (some (Go.Addr.add a6 1)))) w38 fun (s40 : Sl) =>
           ifB ((↑s39.len : Int) != (↑s40.len : Int))
            (R (.bool false) w38)
            (LoopP (T := Int × Unit) (some (0, ())) w38 fun next41 t42 w43 =>
             ifB (decide (t42.fst < (↑s39.len : Int)))
              (RunQ .addr P (Instr.indexAt T_sl_string s39.v (.int .i64 t42.fst)) w43 fun (a44 : Addr) =>
               RunQ .str P (Instr.loadAt T_string (.pointer (some a44))) w43 fun (t45 : ByteArray) =>
                RunQ .sl P (Instr.loadAt T_sl_int (.pointer (some (Go.Addr.add a6 1)))) w43 fun (s46 : Sl) =>
                RunQ .addr P (Instr.indexAt T_sl_int s46.v (.int .i64 t42.fst)) w43 fun (a47 : Addr) =>
                RunQ (.int .i64) P (Instr.loadAt T_int (.pointer (some a47))) w43 fun (n48 : Int) =>
                LoopP (T := ByteArray × Int × Int × Unit) (some ((ByteArray.mk #[]), (n48, (0, ())))) w43 fun next49 t50 w51 =>
                ifB (decide (t50.snd.snd.fst < 8))
                (RunQ .str P (Instr.sliceAt T_string (.string (ByteArray.mk #[48, 49, 50, 51, 52, 53, 54, 55, 56, 57])) (some (.int .i64 (Int.tmod t50.snd.fst 10))) (some (.int .i64 (IntKind.i64.wrap (Int.tmod t50.snd.fst 10 + 1)))) none) w51 fun (t52 : ByteArray) =>
                RunK .str P (do (eqGuard .add T_string (.tmp 0) (.tmp 0) (.string t52) (.string t50.fst)); (binOp .add T_string (.string t52) (.string t50.fst))) w51 fun (t53 : ByteArray) w54 =>
                next49 (some (t53, ((IntKind.i64.wrap (Int.tdiv t50.snd.fst 10)), ((IntKind.i64.wrap (t50.snd.snd.fst + 1)), ())))) w54)
                (CallP P F_ref08_Log_End [(.pointer (some a6))] w51 fun (v55 : Value) w56 =>
                TyP (.int .i64) v55 fun (n57 : Int) =>
                JoinP (T := Int × Unit) (fun J58 =>
                RunQ .sl P (Instr.loadAt T_sl_int (.pointer (some (Go.Addr.add a6 1)))) w56 fun (s61 : Sl) =>
                ifB (decide (IntKind.i64.wrap (t42.fst + 1) < (↑s61.len : Int)))
                (RunQ .sl P (Instr.loadAt T_sl_int (.pointer (some (Go.Addr.add a6 1)))) w56 fun (s62 : Sl) =>
                RunQ .addr P (Instr.indexAt T_sl_int s62.v (.int .i64 (IntKind.i64.wrap (t42.fst + 1)))) w56 fun (a63 : Addr) =>
                RunQ (.int .i64) P (Instr.loadAt T_int (.pointer (some a63))) w56 fun (n64 : Int) =>
                J58 (some (n64, ())) w56)
                (J58 (some (n57, ())) w56))
                fun t59 w60 =>
                CallP P F_disk_Disk_Read [(.pointer p2), (.string t45)] w60 fun (v65 : Value) w66 =>
                TupP [.sl, (.int .i64)] v65 fun (t67 : Sl × Int × Unit) =>
                ∃ S68 : World → Prop, (S68 w66.drew) ∧
                ifB (t67.snd.fst != 0)
                (R (.bool false) w66.drew)
                (RunK .str P (do (eqGuard .add T_string (.const (.string (ByteArray.mk #[112, 51, 46]))) (.tmp 0) (.string (ByteArray.mk #[112, 51, 46])) (.string t50.fst)); (binOp .add T_string (.string (ByteArray.mk #[112, 51, 46])) (.string t50.fst))) w66.drew fun (t69 : ByteArray) w70 =>
                (S68 w70) ∧
                ifB (!ByteArray.toList t45 == ByteArray.toList t69)
                (R (.bool false) w70)
                (HRun S68 .sl P (Instr.loadAt T_sl_api_Batch (.pointer (some (Go.Addr.add a6 0)))) fun (s71 : Sl) =>
                HRun S68 .sl P (Instr.loadAt T_sl_int (.pointer (some (Go.Addr.add a6 1)))) fun (s72 : Sl) =>
                HRun S68 .addr P (Instr.indexAt T_sl_int s72.v (.int .i64 t42.fst)) fun (a73 : Addr) =>
                HRun S68 (.int .i64) P (Instr.loadAt T_int (.pointer (some a73))) fun (n74 : Int) =>
                CallP P F_law08_frames [s71.v, (.int .i64 n74), (.int .i64 t59.fst)] w70 fun (v75 : Value) w76 =>
                TyP .sl v75 fun (s77 : Sl) =>
                (S68 w76) ∧
                CallP P F_ref03_Same [t67.fst.v, s77.v] w76 fun (v78 : Value) w79 =>
                TyP .bool v78 fun (b80 : Bool) =>
                (S68 w79) ∧
                ifB (!b80)
                (R (.bool false) w79)
                (next41 (some ((IntKind.i64.wrap (t42.fst + 1)), ())) w79)))))
              (R (.bool true) w43)))
def an_law08_SegFiles : Ann := ⟨[(32, [(16, (.int .i64))]), (6, [])], [(7, [(39, (.int .i64))]), (25, [(14, .str), (13, (.int .i64)), (15, (.int .i64))]), (20, [(70, (.int .i64))])], []⟩
theorem e_law08_SegFiles (R : Value → World → Prop) (x0 : Sl) (w : World) : denF P an_law08_SegFiles Tryz.f4 [x0.v] w R = S_law08_SegFiles R x0 w := by kernel_rfl
theorem c_law08_SegFiles {R : Value → World → Prop} {x0 : Sl} {w : World} (h : S_law08_SegFiles R x0 w) : CallP P F_law08_SegFiles [x0.v] w R := calls_of_denF (an := an_law08_SegFiles) Tryz.func4 (by rw [e_law08_SegFiles]; exact h)


/-- penstock/penstocklaw08.SegNames -/
def S_law08_SegNames (R : Value → World → Prop) (x0 : ByteArray) (x1 : Sl) (x2 : Sl) (w : World) : Prop :=
 CallP P F_disk_New [] w fun (v0 : Value) w1 =>
 TyP .ptr v0 fun (p2 : Option Addr) =>
  JoinP (T := Bool × Unit) (fun J3 =>
   ifB (decide ((↑(ByteArray.size x0) : Int) > 0))
    (J3 (some ((decide ((↑(ByteArray.size x0) : Int) ≤ 8)), ())) w1)
    (J3 (some (false, ())) w1))
   fun t4 w5 =>
   LoopP (T := Bool × Int × Unit) (some (t4.fst, (0, ()))) w5 fun next6 t7 w8 =>
    ifB (decide (t7.snd.fst < (↑(ByteArray.size x0) : Int)))
     (ifB t7.fst
      (RunQ (.int .u8) P (Instr.index T_string (.string x0) (.int .i64 t7.snd.fst)) w8 fun (n9 : Int) =>
       next6 (some ((n9 != 46), ((IntKind.i64.wrap (t7.snd.fst + 1)), ()))) w8)
      (next6 (some (false, ((IntKind.i64.wrap (t7.snd.fst + 1)), ()))) w8))
     (CallP P F_seglog_Open [(.pointer p2), (.string x0)] w8 fun (v10 : Value) w11 =>
      TupP [.ptr, (.int .i64)] v10 fun (t12 : Option Addr × Int × Unit) =>
       JoinP (T := Unit) (fun J13 =>
        CallP P F_law08_awake [] w11 fun (v16 : Value) w17 =>
         TyP .bool v16 fun (b18 : Bool) =>
          ifB (!b18)
           (CallP P F_law08_awake [] w17 fun (v19 : Value) w20 =>
            TyP .bool v19 fun (b21 : Bool) =>
             ifB b21
              (ifB (!t7.fst)
               (ifB (Option.isNone t12.fst)
                (R (.bool (t12.snd.fst == 1)) w20)
                (R (.bool false) w20))
               (R (.bool false) w20))
              (R (.bool false) w20))
           (ifB (!(!Option.isNone t12.fst) == t7.fst)
            (CallP P F_law08_awake [] w17 fun (v22 : Value) w23 =>
             TyP .bool v22 fun (b24 : Bool) =>
              ifB b24
               (ifB (!t7.fst)
                (ifB (Option.isNone t12.fst)
                (R (.bool (t12.snd.fst == 1)) w23)
                (R (.bool false) w23))
                (R (.bool false) w23))
               (R (.bool false) w23))
            (ifB (!t7.fst)
             (CallP P F_law08_awake [] w17 fun (v25 : Value) w26 =>
              TyP .bool v25 fun (b27 : Bool) =>
               ifB b27
                (ifB (!t7.fst)
                (ifB (Option.isNone t12.fst)
                (R (.bool (t12.snd.fst == 1)) w26)
                (R (.bool false) w26))
                (R (.bool false) w26))
                (R (.bool false) w26))
             (J13 (some ()) w17))))
        fun t14 w15 =>
        RunQ .str P (Instr.sliceAt T_string (.string x0) (some (.int .i64 1)) none none) w15 fun (t28 : ByteArray) =>
         RunK .str P (do (eqGuard .add T_string (.tmp 0) (.const (.string (ByteArray.mk #[95]))) (.string t28) (.string (ByteArray.mk #[95]))); (binOp .add T_string (.string t28) (.string (ByteArray.mk #[95])))) w15 fun (t29 : ByteArray) w30 =>
          CallP P F_seglog_Open [(.pointer p2), (.string t29)] w30 fun (v31 : Value) w32 =>
           TupP [.ptr, (.int .i64)] v31 fun (t33 : Option Addr × Int × Unit) =>
            JoinP (T := Unit) (fun J34 =>
             ifB (Option.isNone t33.fst)
              (R (.bool false) w32)
              (ifB (t33.snd.fst != 0)
               (R (.bool false) w32)
               (J34 (some ()) w32)))
             fun t35 w36 =>
             LoopP (T := Int × Unit) (some (0, ())) w36 fun next37 t38 w39 =>
              JoinP (T := Unit) (fun J40 =>
               ifB (decide (t38.fst < (↑x1.len : Int)))
                (J40 (some ()) w39)
                (ifB (decide (t38.fst < (↑x2.len : Int)))
                (J40 (some ()) w39)
                (RunQ .str P (Instr.sliceAt T_string (.string x0) (some (.int .i64 1)) none none) w39 fun (t43 : ByteArray) =>
                RunK .str P (do (eqGuard .add T_string (.tmp 0) (.const (.string (ByteArray.mk #[95]))) (.string t43) (.string (ByteArray.mk #[95]))); (binOp .add T_string (.string t43) (.string (ByteArray.mk #[95])))) w39 fun (t44 : ByteArray) w45 =>
                ifB (ByteArray.toList x0 == ByteArray.toList t44)
                (R (.bool true) w45)
                (CallP P F_seglog_Open [(.pointer p2), (.string x0)] w45 fun (v46 : Value) w47 =>
                TupP [.ptr, (.int .i64)] v46 fun (t48 : Option Addr × Int × Unit) =>
                RunQ .str P (Instr.sliceAt T_string (.string x0) (some (.int .i64 1)) none none) w47 fun (t49 : ByteArray) =>
                RunK .str P (do (eqGuard .add T_string (.tmp 0) (.const (.string (ByteArray.mk #[95]))) (.string t49) (.string (ByteArray.mk #[95]))); (binOp .add T_string (.string t49) (.string (ByteArray.mk #[95])))) w47 fun (t50 : ByteArray) w51 =>
                CallP P F_seglog_Open [(.pointer p2), (.string t50)] w51 fun (v52 : Value) w53 =>
                TupP [.ptr, (.int .i64)] v52 fun (t54 : Option Addr × Int × Unit) =>
                ifB (t48.snd.fst == 0)
                (ifB (t54.snd.fst == 0)
                (CallP P F_seglog_Log_Read [(.pointer t48.fst), (.int .i64 0), (.int .i64 1048576)] w53 fun (v55 : Value) w56 =>
                TyP .sl v55 fun (s57 : Sl) =>
                CallP P F_seglog_Log_Read [(.pointer t12.fst), (.int .i64 0), (.int .i64 1048576)] w56 fun (v58 : Value) w59 =>
                TyP .sl v58 fun (s60 : Sl) =>
                CallP P F_ref07_SameList [s57.v, s60.v] w59 fun (v61 : Value) w62 =>
                TyP .bool v61 fun (b63 : Bool) =>
                ifB b63
                (CallP P F_seglog_Log_Read [(.pointer t54.fst), (.int .i64 0), (.int .i64 1048576)] w62 fun (v64 : Value) w65 =>
                TyP .sl v64 fun (s66 : Sl) =>
                CallP P F_seglog_Log_Read [(.pointer t33.fst), (.int .i64 0), (.int .i64 1048576)] w65 fun (v67 : Value) w68 =>
                TyP .sl v67 fun (s69 : Sl) =>
                CallP P F_ref07_SameList [s66.v, s69.v] w68 fun (v70 : Value) w71 =>
                TyP .bool v70 fun (b72 : Bool) =>
                R (.bool b72) w71)
                (R (.bool false) w62))
                (R (.bool false) w53))
                (R (.bool false) w53)))))
               fun t41 w42 =>
               JoinP (T := Unit) (fun J73 =>
                ifB (decide (t38.fst < (↑x1.len : Int)))
                (RunQ .addr P (Instr.indexAt T_sl_api_Batch x1.v (.int .i64 t38.fst)) w42 fun (a76 : Addr) =>
                RunQ .val P (Instr.loadAt T_api_Batch (.pointer (some a76))) w42 fun (v77 : Value) =>
                CallP P F_ref07_Copy [v77] w42 fun (v78 : Value) w79 =>
                TyP .val v78 fun (v80 : Value) =>
                RunK .addr P (Instr.alloc T_api_Batch true (.tuple #[])) w79 fun (a81 : Addr) w82 =>
                StoreP P T_api_Batch (.pointer (some a81)) v80 w82 fun w83 =>
                CallP P F_seglog_Log_End [(.pointer t12.fst)] w83 fun (v84 : Value) w85 =>
                TyP (.int .i64) v84 fun (n86 : Int) =>
                StoreP P T_int (.pointer (some (Go.Addr.add a81 0))) (.int .i64 n86) w85 fun w87 =>
                RunQ .val P (Instr.loadAt T_api_Batch (.pointer (some a81))) w87 fun (v88 : Value) =>
                CallP P F_seglog_Log_Put [(.pointer t12.fst), v88] w87 fun (v89 : Value) w90 =>
                TyP (.int .i64) v89 fun (n91 : Int) =>
                J73 (some ()) w90)
                (J73 (some ()) w42))
                fun t74 w75 =>
                ifB (decide (t38.fst < (↑x2.len : Int)))
                (RunQ .addr P (Instr.indexAt T_sl_api_Batch x2.v (.int .i64 t38.fst)) w75 fun (a92 : Addr) =>
                RunQ .val P (Instr.loadAt T_api_Batch (.pointer (some a92))) w75 fun (v93 : Value) =>
                CallP P F_ref07_Copy [v93] w75 fun (v94 : Value) w95 =>
                TyP .val v94 fun (v96 : Value) =>
                RunK .addr P (Instr.alloc T_api_Batch true (.tuple #[])) w95 fun (a97 : Addr) w98 =>
                StoreP P T_api_Batch (.pointer (some a97)) v96 w98 fun w99 =>
                CallP P F_seglog_Log_End [(.pointer t33.fst)] w99 fun (v100 : Value) w101 =>
                TyP (.int .i64) v100 fun (n102 : Int) =>
                StoreP P T_int (.pointer (some (Go.Addr.add a97 0))) (.int .i64 n102) w101 fun w103 =>
                RunQ .val P (Instr.loadAt T_api_Batch (.pointer (some a97))) w103 fun (v104 : Value) =>
                CallP P F_seglog_Log_Put [(.pointer t33.fst), v104] w103 fun (v105 : Value) w106 =>
                TyP (.int .i64) v105 fun (n107 : Int) =>
                next37 (some ((IntKind.i64.wrap (t38.fst + 1)), ())) w106)
                (next37 (some ((IntKind.i64.wrap (t38.fst + 1)), ())) w75))
def an_law08_SegNames : Ann := ⟨[(20, []), (16, []), (13, []), (10, []), (3, [(8, .bool)])], [(4, [(8, .bool), (9, (.int .i64))]), (14, [(14, (.int .i64))])], []⟩
theorem e_law08_SegNames (R : Value → World → Prop) (x0 : ByteArray) (x1 : Sl) (x2 : Sl) (w : World) : denF P an_law08_SegNames Tryz.f5 [.string x0, x1.v, x2.v] w R = S_law08_SegNames R x0 x1 x2 w := by kernel_rfl
theorem c_law08_SegNames {R : Value → World → Prop} {x0 : ByteArray} {x1 : Sl} {x2 : Sl} {w : World} (h : S_law08_SegNames R x0 x1 x2 w) : CallP P F_law08_SegNames [.string x0, x1.v, x2.v] w R := calls_of_denF (an := an_law08_SegNames) Tryz.func5 (by rw [e_law08_SegNames]; exact h)


/-- penstock/penstocklaw08.SegOpens -/
def S_law08_SegOpens (R : Value → World → Prop) (x0 : Sl) (x1 : Sl) (x2 : Int) (w : World) : Prop :=
 CallP P F_disk_New [] w fun (v0 : Value) w1 =>
 TyP .ptr v0 fun (p2 : Option Addr) =>
  LoopP (T := Sl × Bool × Sl × Int × Int × Int × Unit) (some (⟨none, 0, 0⟩, (true, (⟨none, 0, 0⟩, (0, (0, (0, ()))))))) w1 fun next3 t4 w5 =>
   ifB (decide (t4.snd.snd.snd.snd.snd.fst < (↑x0.len : Int)))
    (RunQ .addr P (Instr.indexAt T_sl_api_Batch x0.v (.int .i64 t4.snd.snd.snd.snd.snd.fst)) w5 fun (a6 : Addr) =>
     RunQ .val P (Instr.loadAt T_api_Batch (.pointer (some a6))) w5 fun (v7 : Value) =>
      RunK .addr P (Instr.alloc T_api_Batch true (.tuple #[])) w5 fun (a8 : Addr) w9 =>
       StoreP P T_api_Batch (.pointer (some a8)) v7 w9 fun w10 =>
        RunQ .val P (Instr.loadAt T_api_Batch (.pointer (some a8))) w10 fun (v11 : Value) =>
         CallP P F_ref07_DocEncode [v11] w10 fun (v12 : Value) w13 =>
          TupP [.sl, (.int .i64)] v12 fun (t14 : Sl × Int × Unit) =>
           ifB (t14.snd.fst != 0)
            (next3 (some (t4.fst, (t4.snd.fst, (t4.snd.snd.fst, (t4.snd.snd.snd.fst, (t4.snd.snd.snd.snd.fst, ((IntKind.i64.wrap (t4.snd.snd.snd.snd.snd.fst + 1)), ()))))))) w13)
            (CallP P F_ref04_DocEncode [t14.fst.v] w13 fun (v15 : Value) w16 =>
             TupP [.sl, (.int .i64)] v15 fun (t17 : Sl × Int × Unit) =>
              RunK .sl P (Builtin.append_ #[T_sl_uint8, T_sl_uint8] T_sl_uint8 #[t4.fst.v, t17.fst.v]) w16 fun (s18 : Sl) w19 =>
               JoinP (T := Bool × Unit) (fun J20 =>
                ifB t4.snd.fst
                (RunQ (.int .i64) P (Instr.loadAt T_int (.pointer (some (Go.Addr.add a8 0)))) w19 fun (n23 : Int) =>
                J20 (some ((n23 == t4.snd.snd.snd.fst), ())) w19)
                (J20 (some (false, ())) w19))
                fun t21 w22 =>
                ifB t21.fst
                (RunQ .val P (Instr.loadAt T_api_Batch (.pointer (some a8))) w22 fun (v24 : Value) =>
                RunK .sl P (Instr.buildSlice T_sl_api_Batch 1 #[(0, v24)]) w22 fun (s25 : Sl) w26 =>
                RunK .sl P (Builtin.append_ #[T_sl_api_Batch, T_sl_api_Batch] T_sl_api_Batch #[t4.snd.snd.fst.v, s25.v]) w26 fun (s27 : Sl) w28 =>
                RunQ .val P (Instr.loadAt T_api_Batch (.pointer (some a8))) w28 fun (v29 : Value) =>
                CallP P F_law08_end [v29] w28 fun (v30 : Value) w31 =>
                TyP (.int .i64) v30 fun (n32 : Int) =>
                next3 (some (s18, (t21.fst, (s27, (n32, (((↑s18.len : Int)), ((IntKind.i64.wrap (t4.snd.snd.snd.snd.snd.fst + 1)), ()))))))) w31)
                (next3 (some (s18, (t21.fst, (t4.snd.snd.fst, (t4.snd.snd.snd.fst, (t4.snd.snd.snd.snd.fst, ((IntKind.i64.wrap (t4.snd.snd.snd.snd.snd.fst + 1)), ()))))))) w22)))
    (RunK .sl P (Builtin.append_ #[T_sl_uint8, T_sl_uint8] T_sl_uint8 #[t4.fst.v, x1.v]) w5 fun (s33 : Sl) w34 =>
     JoinP (T := Unit) (fun J35 =>
      CallP P F_ref04_DocDecode [s33.v, (.int .i64 t4.snd.snd.snd.snd.fst)] w34 fun (v38 : Value) w39 =>
       TupP [.sl, (.int .i64), (.int .i64)] v38 fun (t40 : Sl × Int × Int × Unit) =>
        ifB t4.snd.fst
         (ifB (t40.snd.snd.fst == 0)
          (CallP P F_law08_awake [] w39 fun (v41 : Value) w42 =>
           TyP .bool v41 fun (b43 : Bool) =>
            R (.bool b43) w42)
          (CallP P F_law08_awake [] w39 fun (v44 : Value) w45 =>
           TyP .bool v44 fun (b46 : Bool) =>
            ifB (!b46)
             (CallP P F_law08_awake [] w45 fun (v47 : Value) w48 =>
              TyP .bool v47 fun (b49 : Bool) =>
               R (.bool b49) w48)
             (ifB (decide ((↑s33.len : Int) > 262144))
              (CallP P F_law08_awake [] w45 fun (v50 : Value) w51 =>
               TyP .bool v50 fun (b52 : Bool) =>
                R (.bool b52) w51)
              (J35 (some ()) w45))))
         (CallP P F_law08_awake [] w39 fun (v53 : Value) w54 =>
          TyP .bool v53 fun (b55 : Bool) =>
           ifB (!b55)
            (CallP P F_law08_awake [] w54 fun (v56 : Value) w57 =>
             TyP .bool v56 fun (b58 : Bool) =>
              R (.bool b58) w57)
            (ifB (decide ((↑s33.len : Int) > 262144))
             (CallP P F_law08_awake [] w54 fun (v59 : Value) w60 =>
              TyP .bool v59 fun (b61 : Bool) =>
               R (.bool b61) w60)
             (J35 (some ()) w54))))
      fun t36 w37 =>
      RunK .sl P (Instr.buildSlice T_sl_uint8 2 #[(0, (.int .u8 (IntKind.u8.wrap (48 + (IntKind.u8.wrap (Int.tdiv x2 10)).tmod 10)))), (1, (.int .u8 (IntKind.u8.wrap (48 + Int.tmod x2 10))))]) w37 fun (s62 : Sl) w63 =>
       RunK .str P (convert T_sl_uint8 T_string s62.v) w63 fun (t64 : ByteArray) w65 =>
        RunK .str P (do (eqGuard .add T_string (.const (.string (ByteArray.mk #[108, 111, 103, 46, 48, 48, 48, 48, 48, 48]))) (.tmp 0) (.string (ByteArray.mk #[108, 111, 103, 46, 48, 48, 48, 48, 48, 48])) (.string t64)); (binOp .add T_string (.string (ByteArray.mk #[108, 111, 103, 46, 48, 48, 48, 48, 48, 48])) (.string t64))) w65 fun (t66 : ByteArray) w67 =>
         JoinP (T := Unit) (fun J68 =>
          CallP P F_disk_Disk_Append [(.pointer p2), (.string (ByteArray.mk #[108, 111, 103, 46, 48, 48, 48, 48, 48, 48, 48, 48])), s33.v] w67 fun (v71 : Value) w72 =>
           TyP (.int .i64) v71 fun (n73 : Int) =>
            ifB (n73 != 0)
             (R (.bool false) w72)
             (ifB (!ByteArray.toList t66 == (ByteArray.mk #[108, 111, 103, 46, 48, 48, 48, 48, 48, 48, 48, 48]).toList)
              (CallP P F_disk_Disk_Append [(.pointer p2), (.string t66), (.slice none 0 0)] w72 fun (v74 : Value) w75 =>
               TyP (.int .i64) v74 fun (n76 : Int) =>
                ifB (n76 != 0)
                (R (.bool false) w75)
                (J68 (some ()) w75))
              (J68 (some ()) w72)))
          fun t69 w70 =>
          CallP P F_seglog_Open [(.pointer p2), (.string (ByteArray.mk #[108, 111, 103]))] w70 fun (v77 : Value) w78 =>
           TupP [.ptr, (.int .i64)] v77 fun (t79 : Option Addr × Int × Unit) =>
            CallP P F_disk_Disk_Size [(.pointer p2), (.string (ByteArray.mk #[108, 111, 103, 46, 48, 48, 48, 48, 48, 48, 48, 48]))] w78 fun (v80 : Value) w81 =>
             TupP [(.int .i64), (.int .i64), (.int .i64)] v80 fun (t82 : Int × Int × Int × Unit) =>
              JoinP (T := Unit) (fun J83 =>
               ifB (Option.isNone t79.fst)
                (R (.bool false) w81)
                (ifB (t79.snd.fst != 0)
                (R (.bool false) w81)
                (ifB (t82.snd.snd.fst != 0)
                (R (.bool false) w81)
                (ifB (t82.fst != t4.snd.snd.snd.snd.fst)
                (R (.bool false) w81)
                (CallP P F_seglog_Log_End [(.pointer t79.fst)] w81 fun (v86 : Value) w87 =>
                TyP (.int .i64) v86 fun (n88 : Int) =>
                ifB (n88 != t4.snd.snd.snd.fst)
                (R (.bool false) w87)
                (CallP P F_seglog_Log_Read [(.pointer t79.fst), (.int .i64 0), (.int .i64 1048576)] w87 fun (v89 : Value) w90 =>
                TyP .sl v89 fun (s91 : Sl) =>
                CallP P F_ref07_SameList [s91.v, t4.snd.snd.fst.v] w90 fun (v92 : Value) w93 =>
                TyP .bool v92 fun (b94 : Bool) =>
                ifB (!b94)
                (R (.bool false) w93)
                (J83 (some ()) w93)))))))
               fun t84 w85 =>
               JoinP (T := Bool × Unit) (fun J95 =>
                ifB (IntKind.i64.wrap (Int.tmod x2 100) == t4.snd.snd.snd.fst)
                (ifB (t82.fst == (↑s33.len : Int))
                (J95 (some ((!ByteArray.toList t66 == (ByteArray.mk #[108, 111, 103, 46, 48, 48, 48, 48, 48, 48, 48, 48]).toList), ())) w85)
                (J95 (some (false, ())) w85))
                (J95 (some (false, ())) w85))
                fun t96 w97 =>
                CallP P F_disk_Disk_Names [(.pointer p2)] w97 fun (v98 : Value) w99 =>
                TyP .sl v98 fun (s100 : Sl) =>
                ifB ((↑s100.len : Int) == 1)
                (ifB (!t96.fst)
                (R (.bool true) w99)
                (CallP P F_disk_Disk_Names [(.pointer p2)] w99 fun (v101 : Value) w102 =>
                TyP .sl v101 fun (s103 : Sl) =>
                ifB ((↑s103.len : Int) == 2)
                (R (.bool t96.fst) w102)
                (R (.bool false) w102)))
                (CallP P F_disk_Disk_Names [(.pointer p2)] w99 fun (v104 : Value) w105 =>
                TyP .sl v104 fun (s106 : Sl) =>
                ifB ((↑s106.len : Int) == 2)
                (R (.bool t96.fst) w105)
                (R (.bool false) w105)))
def an_law08_SegOpens : Ann := ⟨[(13, [(11, .bool)]), (30, [(28, .bool)]), (29, []), (25, []), (22, [])], [(6, [(8, .sl), (11, .bool), (12, .sl), (9, (.int .i64)), (10, (.int .i64)), (32, (.int .i64))])], []⟩
theorem e_law08_SegOpens (R : Value → World → Prop) (x0 : Sl) (x1 : Sl) (x2 : Int) (w : World) : denF P an_law08_SegOpens Tryz.f6 [x0.v, x1.v, .int .u8 x2] w R = S_law08_SegOpens R x0 x1 x2 w := by kernel_rfl
theorem c_law08_SegOpens {R : Value → World → Prop} {x0 : Sl} {x1 : Sl} {x2 : Int} {w : World} (h : S_law08_SegOpens R x0 x1 x2 w) : CallP P F_law08_SegOpens [x0.v, x1.v, .int .u8 x2] w R := calls_of_denF (an := an_law08_SegOpens) Tryz.func6 (by rw [e_law08_SegOpens]; exact h)


/-- penstock/penstocklaw08.SegLasts -/
def S_law08_SegLasts (R : Value → World → Prop) (x0 : Sl) (w : World) : Prop :=
 CallP P F_disk_New [] w fun (v0 : Value) w1 =>
 TyP .ptr v0 fun (p2 : Option Addr) =>
  CallP P F_seglog_Open [(.pointer p2), (.string (ByteArray.mk #[108, 111, 103]))] w1 fun (v3 : Value) w4 =>
   TupP [.ptr, (.int .i64)] v3 fun (t5 : Option Addr × Int × Unit) =>
    JoinP (T := Unit) (fun J6 =>
     CallP P F_law08_awake [] w4 fun (v9 : Value) w10 =>
      TyP .bool v9 fun (b11 : Bool) =>
       ifB (!b11)
        (R (.bool false) w10)
        (ifB (Option.isNone t5.fst)
         (R (.bool false) w10)
         (ifB (t5.snd.fst != 0)
          (R (.bool false) w10)
          (J6 (some ()) w10))))
     fun t7 w8 =>
     LoopP (T := Option Addr × Int × Unit) (some (t5.fst, (0, ()))) w8 fun next12 t13 w14 =>
      ifB (decide (t13.snd.fst < (↑x0.len : Int)))
       (RunQ .addr P (Instr.indexAt T_sl_penstocklaw08_Op x0.v (.int .i64 t13.snd.fst)) w14 fun (a15 : Addr) =>
        RunQ .val P (Instr.loadAt T_penstocklaw08_Op (.pointer (some a15))) w14 fun (v16 : Value) =>
         RunK .addr P (Instr.alloc T_penstocklaw08_Op true (.tuple #[])) w14 fun (a17 : Addr) w18 =>
          StoreP P T_penstocklaw08_Op (.pointer (some a17)) v16 w18 fun w19 =>
           RunQ (.int .i64) P (Instr.loadAt T_int (.pointer (some (Go.Addr.add a17 0)))) w19 fun (n20 : Int) =>
            ifB (n20 == 0)
             (RunQ .val P (Instr.loadAt T_api_Batch (.pointer (some (Go.Addr.add a17 1)))) w19 fun (v21 : Value) =>
              CallP P F_ref07_Copy [v21] w19 fun (v22 : Value) w23 =>
               TyP .val v22 fun (v24 : Value) =>
                RunK .addr P (Instr.alloc T_api_Batch true (.tuple #[])) w23 fun (a25 : Addr) w26 =>
                StoreP P T_api_Batch (.pointer (some a25)) v24 w26 fun w27 =>
                CallP P F_seglog_Log_End [(.pointer t13.fst)] w27 fun (v28 : Value) w29 =>
                TyP (.int .i64) v28 fun (n30 : Int) =>
                StoreP P T_int (.pointer (some (Go.Addr.add a25 0))) (.int .i64 n30) w29 fun w31 =>
                RunQ .val P (Instr.loadAt T_api_Batch (.pointer (some a25))) w31 fun (v32 : Value) =>
                CallP P F_seglog_Log_Put [(.pointer t13.fst), v32] w31 fun (v33 : Value) w34 =>
                TyP (.int .i64) v33 fun (n35 : Int) =>
                next12 (some (t13.fst, ((IntKind.i64.wrap (t13.snd.fst + 1)), ()))) w34)
             (ifB (n20 == 1)
              (RunQ .val P (Instr.loadAt T_api_Batch (.pointer (some (Go.Addr.add a17 1)))) w19 fun (v36 : Value) =>
               CallP P F_ref07_Copy [v36] w19 fun (v37 : Value) w38 =>
                TyP .val v37 fun (v39 : Value) =>
                RunK .addr P (Instr.alloc T_api_Batch true (.tuple #[])) w38 fun (a40 : Addr) w41 =>
                StoreP P T_api_Batch (.pointer (some a40)) v39 w41 fun w42 =>
                CallP P F_seglog_Log_End [(.pointer t13.fst)] w42 fun (v43 : Value) w44 =>
                TyP (.int .i64) v43 fun (n45 : Int) =>
                StoreP P T_int (.pointer (some (Go.Addr.add a40 0))) (.int .i64 n45) w44 fun w46 =>
                RunQ .val P (Instr.loadAt T_api_Batch (.pointer (some a40))) w46 fun (v47 : Value) =>
                CallP P F_seglog_Log_Put [(.pointer t13.fst), v47] w46 fun (v48 : Value) w49 =>
                TyP (.int .i64) v48 fun (n50 : Int) =>
                next12 (some (t13.fst, ((IntKind.i64.wrap (t13.snd.fst + 1)), ()))) w49)
              (ifB (n20 == 2)
               (CallP P F_seglog_Log_Flush [(.pointer t13.fst)] w19 fun (v51 : Value) w52 =>
                TyP (.int .i64) v51 fun (n53 : Int) =>
                next12 (some (t13.fst, ((IntKind.i64.wrap (t13.snd.fst + 1)), ()))) w52)
               (ifB (n20 == 3)
                (CallP P F_disk_Disk_Dead [(.pointer p2)] w19 fun (v54 : Value) w55 =>
                TyP .bool v54 fun (b56 : Bool) =>
                ifB (!b56)
                (RunQ (.int .i64) P (Instr.loadAt T_int (.pointer (some (Go.Addr.add a17 10)))) w55 fun (n57 : Int) =>
                CallP P F_seglog_Log_Truncate [(.pointer t13.fst), (.int .i64 n57)] w55 fun (v58 : Value) w59 =>
                TyP (.int .i64) v58 fun (n60 : Int) =>
                next12 (some (t13.fst, ((IntKind.i64.wrap (t13.snd.fst + 1)), ()))) w59)
                (next12 (some (t13.fst, ((IntKind.i64.wrap (t13.snd.fst + 1)), ()))) w55))
                (ifB (n20 == 4)
                (CallP P F_disk_Disk_Dead [(.pointer p2)] w19 fun (v61 : Value) w62 =>
                TyP .bool v61 fun (b63 : Bool) =>
                ifB (!b63)
                (RunQ (.int .i64) P (Instr.loadAt T_int (.pointer (some (Go.Addr.add a17 10)))) w62 fun (n64 : Int) =>
                CallP P F_seglog_Log_Drop [(.pointer t13.fst), (.int .i64 n64)] w62 fun (v65 : Value) w66 =>
                TyP (.int .i64) v65 fun (n67 : Int) =>
                next12 (some (t13.fst, ((IntKind.i64.wrap (t13.snd.fst + 1)), ()))) w66)
                (next12 (some (t13.fst, ((IntKind.i64.wrap (t13.snd.fst + 1)), ()))) w62))
                (ifB (n20 == 5)
                (CallP P F_seglog_Log_Start [(.pointer t13.fst)] w19 fun (v68 : Value) w69 =>
                TyP (.int .i64) v68 fun (n70 : Int) =>
                CallP P F_seglog_Log_Read [(.pointer t13.fst), (.int .i64 n70), (.int .i64 1048576)] w69 fun (v71 : Value) w72 =>
                TyP .sl v71 fun (s73 : Sl) =>
                CallP P F_seglog_Log_Start [(.pointer t13.fst)] w72 fun (v74 : Value) w75 =>
                TyP (.int .i64) v74 fun (n76 : Int) =>
                CallP P F_seglog_Log_Synced [(.pointer t13.fst)] w75 fun (v77 : Value) w78 =>
                TyP (.int .i64) v77 fun (n79 : Int) =>
                RunQ (.int .i64) P (Instr.loadAt T_int (.pointer (some (Go.Addr.add a17 10)))) w78 fun (n80 : Int) =>
                CallP P F_disk_Disk_Crash [(.pointer p2), (.int .i64 n80)] w78 fun (v81 : Value) w82 =>
                TupP [] v81 fun (t83 : Unit) =>
                CallP P F_seglog_Open [(.pointer p2), (.string (ByteArray.mk #[108, 111, 103]))] w82 fun (v84 : Value) w85 =>
                TupP [.ptr, (.int .i64)] v84 fun (t86 : Option Addr × Int × Unit) =>
                JoinP (T := Unit) (fun J87 =>
                ifB (Option.isNone t86.fst)
                (R (.bool false) w85)
                (ifB (t86.snd.fst != 0)
                (R (.bool false) w85)
                (J87 (some ()) w85)))
                fun t88 w89 =>
                CallP P F_seglog_Log_Start [(.pointer t86.fst)] w89 fun (v90 : Value) w91 =>
                TyP (.int .i64) v90 fun (n92 : Int) =>
                CallP P F_seglog_Log_Read [(.pointer t86.fst), (.int .i64 n92), (.int .i64 1048576)] w91 fun (v93 : Value) w94 =>
                TyP .sl v93 fun (s95 : Sl) =>
                ifB (decide ((↑s73.len : Int) > 0))
                (CallP P F_seglog_Log_Start [(.pointer t86.fst)] w94 fun (v96 : Value) w97 =>
                TyP (.int .i64) v96 fun (n98 : Int) =>
                ifB (n98 != n76)
                (R (.bool false) w97)
                (ifB (decide ((↑s95.len : Int) > (↑s73.len : Int)))
                (R (.bool false) w97)
                (RunQ .sl P (Instr.sliceAt T_sl_api_Batch s73.v none (some (.int .i64 ((↑s95.len : Int)))) none) w97 fun (s99 : Sl) =>
                CallP P F_ref07_SameList [s95.v, s99.v] w97 fun (v100 : Value) w101 =>
                TyP .bool v100 fun (b102 : Bool) =>
                ifB (!b102)
                (R (.bool false) w101)
                (CallP P F_seglog_Log_End [(.pointer t86.fst)] w101 fun (v103 : Value) w104 =>
                TyP (.int .i64) v103 fun (n105 : Int) =>
                ifB (decide (n105 < n79))
                (R (.bool false) w104)
                (CallP P F_seglog_Log_Synced [(.pointer t86.fst)] w104 fun (v106 : Value) w107 =>
                TyP (.int .i64) v106 fun (n108 : Int) =>
                CallP P F_seglog_Log_End [(.pointer t86.fst)] w107 fun (v109 : Value) w110 =>
                TyP (.int .i64) v109 fun (n111 : Int) =>
                ifB (n108 != n111)
                (R (.bool false) w110)
                (next12 (some (t86.fst, ((IntKind.i64.wrap (t13.snd.fst + 1)), ()))) w110))))))
                (ifB (decide ((↑s95.len : Int) > (↑s73.len : Int)))
                (R (.bool false) w94)
                (RunQ .sl P (Instr.sliceAt T_sl_api_Batch s73.v none (some (.int .i64 ((↑s95.len : Int)))) none) w94 fun (s112 : Sl) =>
                CallP P F_ref07_SameList [s95.v, s112.v] w94 fun (v113 : Value) w114 =>
                TyP .bool v113 fun (b115 : Bool) =>
                ifB (!b115)
                (R (.bool false) w114)
                (CallP P F_seglog_Log_End [(.pointer t86.fst)] w114 fun (v116 : Value) w117 =>
                TyP (.int .i64) v116 fun (n118 : Int) =>
                ifB (decide (n118 < n79))
                (R (.bool false) w117)
                (CallP P F_seglog_Log_Synced [(.pointer t86.fst)] w117 fun (v119 : Value) w120 =>
                TyP (.int .i64) v119 fun (n121 : Int) =>
                CallP P F_seglog_Log_End [(.pointer t86.fst)] w120 fun (v122 : Value) w123 =>
                TyP (.int .i64) v122 fun (n124 : Int) =>
                ifB (n121 != n124)
                (R (.bool false) w123)
                (next12 (some (t86.fst, ((IntKind.i64.wrap (t13.snd.fst + 1)), ()))) w123))))))
                (ifB (n20 == 7)
                (RunQ (.int .i64) P (Instr.loadAt T_int (.pointer (some (Go.Addr.add a17 10)))) w19 fun (n125 : Int) =>
                CallP P F_disk_Disk_Arm [(.pointer p2), (.int .i64 n125)] w19 fun (v126 : Value) w127 =>
                TupP [] v126 fun (t128 : Unit) =>
                next12 (some (t13.fst, ((IntKind.i64.wrap (t13.snd.fst + 1)), ()))) w127)
                (next12 (some (t13.fst, ((IntKind.i64.wrap (t13.snd.fst + 1)), ()))) w19))))))))
       (R (.bool true) w14)
def an_law08_SegLasts : Ann := ⟨[(28, []), (5, [])], [(6, [(4, .ptr), (33, (.int .i64))])], []⟩
theorem e_law08_SegLasts (R : Value → World → Prop) (x0 : Sl) (w : World) : denF P an_law08_SegLasts Tryz.f7 [x0.v] w R = S_law08_SegLasts R x0 w := by kernel_rfl
theorem c_law08_SegLasts {R : Value → World → Prop} {x0 : Sl} {w : World} (h : S_law08_SegLasts R x0 w) : CallP P F_law08_SegLasts [x0.v] w R := calls_of_denF (an := an_law08_SegLasts) Tryz.func7 (by rw [e_law08_SegLasts]; exact h)


/-- penstock/penstocklaw08.SegNone -/
def S_law08_SegNone (R : Value → World → Prop) (x0 : Value) (x1 : Int) (w : World) : Prop :=
 RunK .addr P (Instr.box T_api_Batch x0) w fun (a0 : Addr) w1 =>
 CallP P F_seglog_Open [(.pointer none), (.string (ByteArray.mk #[108, 111, 103]))] w1 fun (v2 : Value) w3 =>
  TupP [.ptr, (.int .i64)] v2 fun (t4 : Option Addr × Int × Unit) =>
   CallP P F_law08_awake [] w3 fun (v5 : Value) w6 =>
    TyP .bool v5 fun (b7 : Bool) =>
     ifB b7
      (ifB (Option.isNone t4.fst)
       (ifB (t4.snd.fst == 5)
        (RunQ .val P (Instr.loadAt T_api_Batch (.pointer (some a0))) w6 fun (v8 : Value) =>
         CallP P F_seglog_Log_Put [(.pointer none), v8] w6 fun (v9 : Value) w10 =>
          TyP (.int .i64) v9 fun (n11 : Int) =>
           ifB (n11 == 5)
            (CallP P F_seglog_Log_Flush [(.pointer none)] w10 fun (v12 : Value) w13 =>
             TyP (.int .i64) v12 fun (n14 : Int) =>
              ifB (n14 == 5)
               (CallP P F_seglog_Log_Read [(.pointer none), (.int .i64 x1), (.int .i64 x1)] w13 fun (v15 : Value) w16 =>
                TyP .sl v15 fun (s17 : Sl) =>
                ifB ((↑s17.len : Int) == 0)
                (CallP P F_seglog_Log_Truncate [(.pointer none), (.int .i64 x1)] w16 fun (v18 : Value) w19 =>
                TyP (.int .i64) v18 fun (n20 : Int) =>
                ifB (n20 == 5)
                (CallP P F_seglog_Log_Drop [(.pointer none), (.int .i64 x1)] w19 fun (v21 : Value) w22 =>
                TyP (.int .i64) v21 fun (n23 : Int) =>
                ifB (n23 == 5)
                (CallP P F_seglog_Log_Start [(.pointer none)] w22 fun (v24 : Value) w25 =>
                TyP (.int .i64) v24 fun (n26 : Int) =>
                ifB (n26 == 0)
                (CallP P F_seglog_Log_End [(.pointer none)] w25 fun (v27 : Value) w28 =>
                TyP (.int .i64) v27 fun (n29 : Int) =>
                ifB (n29 == 0)
                (CallP P F_seglog_Log_Synced [(.pointer none)] w28 fun (v30 : Value) w31 =>
                TyP (.int .i64) v30 fun (n32 : Int) =>
                ifB (n32 == 0)
                (CallP P F_seglog_Log_Segments [(.pointer none)] w31 fun (v33 : Value) w34 =>
                TyP .sl v33 fun (s35 : Sl) =>
                R (.bool ((↑s35.len : Int) == 0)) w34)
                (R (.bool false) w31))
                (R (.bool false) w28))
                (R (.bool false) w25))
                (R (.bool false) w22))
                (R (.bool false) w19))
                (R (.bool false) w16))
               (R (.bool false) w13))
            (R (.bool false) w10))
        (R (.bool false) w6))
       (R (.bool false) w6))
      (R (.bool false) w6)
def an_law08_SegNone : Ann := ⟨[], [], []⟩
theorem e_law08_SegNone (R : Value → World → Prop) (x0 : Value) (x1 : Int) (w : World) : denF P an_law08_SegNone Tryz.f8 [x0, .int .i64 x1] w R = S_law08_SegNone R x0 x1 w := by kernel_rfl
theorem c_law08_SegNone {R : Value → World → Prop} {x0 : Value} {x1 : Int} {w : World} (h : S_law08_SegNone R x0 x1 w) : CallP P F_law08_SegNone [x0, .int .i64 x1] w R := calls_of_denF (an := an_law08_SegNone) Tryz.func8 (by rw [e_law08_SegNone]; exact h)


/-- penstock/penstocklaw08.awake -/
def S_law08_awake (R : Value → World → Prop) (w : World) : Prop :=
 CallP P F_disk_New [] w fun (v0 : Value) w1 =>
 TyP .ptr v0 fun (p2 : Option Addr) =>
  CallP P F_seglog_Open [(.pointer p2), (.string (ByteArray.mk #[112, 48]))] w1 fun (v3 : Value) w4 =>
   TupP [.ptr, (.int .i64)] v3 fun (t5 : Option Addr × Int × Unit) =>
    JoinP (T := Unit) (fun J6 =>
     ifB (Option.isNone t5.fst)
      (R (.bool false) w4)
      (ifB (t5.snd.fst != 0)
       (R (.bool false) w4)
       (RunK .sl P (Instr.buildSlice T_sl_sl_uint8 3 #[(0, (.slice none 0 0)), (1, (.slice none 0 0)), (2, (.slice none 0 0))]) w4 fun (s9 : Sl) w10 =>
        CallP P F_seglog_Log_Put [(.pointer t5.fst), (.agg #[(.int .i64 0), (.int .i64 0), (.int .u64 0), (.int .i64 0), (.int .i64 0), (.bool false), (.bool false), (.bool false), s9.v])] w10 fun (v11 : Value) w12 =>
         TyP (.int .i64) v11 fun (n13 : Int) =>
          ifB (n13 != 0)
           (R (.bool false) w12)
           (CallP P F_seglog_Log_End [(.pointer t5.fst)] w12 fun (v14 : Value) w15 =>
            TyP (.int .i64) v14 fun (n16 : Int) =>
             ifB (n16 != 3)
              (R (.bool false) w15)
              (CallP P F_seglog_Log_Synced [(.pointer t5.fst)] w15 fun (v17 : Value) w18 =>
               TyP (.int .i64) v17 fun (n19 : Int) =>
                ifB (n19 != 0)
                (R (.bool false) w18)
                (CallP P F_seglog_Log_Flush [(.pointer t5.fst)] w18 fun (v20 : Value) w21 =>
                TyP (.int .i64) v20 fun (n22 : Int) =>
                ifB (n22 != 0)
                (R (.bool false) w21)
                (J6 (some ()) w21)))))))
     fun t7 w8 =>
     CallP P F_disk_Disk_Crash [(.pointer p2), (.int .i64 0)] w8 fun (v23 : Value) w24 =>
      TupP [] v23 fun (t25 : Unit) =>
       CallP P F_seglog_Open [(.pointer p2), (.string (ByteArray.mk #[112, 48]))] w24 fun (v26 : Value) w27 =>
        TupP [.ptr, (.int .i64)] v26 fun (t28 : Option Addr × Int × Unit) =>
         ifB (!Option.isNone t28.fst)
          (ifB (t28.snd.fst == 0)
           (CallP P F_seglog_Log_End [(.pointer t28.fst)] w27 fun (v29 : Value) w30 =>
            TyP (.int .i64) v29 fun (n31 : Int) =>
             ifB (n31 == 3)
              (CallP P F_seglog_Log_Read [(.pointer t28.fst), (.int .i64 0), (.int .i64 9)] w30 fun (v32 : Value) w33 =>
               TyP .sl v32 fun (s34 : Sl) =>
                R (.bool ((↑s34.len : Int) == 1)) w33)
              (R (.bool false) w30))
           (R (.bool false) w27))
          (R (.bool false) w27)
def an_law08_awake : Ann := ⟨[(5, [])], [], []⟩
theorem e_law08_awake (R : Value → World → Prop) (w : World) : denF P an_law08_awake Tryz.f11 [] w R = S_law08_awake R  w := by kernel_rfl
theorem c_law08_awake {R : Value → World → Prop} {w : World} (h : S_law08_awake R  w) : CallP P F_law08_awake [] w R := calls_of_denF (an := an_law08_awake) Tryz.func11 (by rw [e_law08_awake]; exact h)

end Go.Proofs.YtbpcichakchpkaaGreatDoor
