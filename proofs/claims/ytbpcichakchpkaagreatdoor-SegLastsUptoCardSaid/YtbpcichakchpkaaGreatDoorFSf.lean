/- The functions of the program as predicates over worlds, written by a program of mine (PkPrint); each is held against the code by the kernel. -/
import Derived.Test.YtbpcichakchpkaaGreatDoorN
namespace Go.Proofs.YtbpcichakchpkaaGreatDoor
open Go Go.Pk
/-- penstock/penstocklaw08.SegLasts -/
def S_law08_SegLasts (R : Value → World → Prop) (x0 : Sl) (w : World) : Prop :=
 CallP P F_disk_New [] w fun (v0 : Value) w1 =>
 TyP .ptr v0 fun (p2 : Option Addr) =>
  CallP P F_seglog_Open [(.pointer p2), (.string (ByteArray.mk #[108, 111, 103]))] w1 fun (v3 : Value) w4 =>
   TupP [.ptr, (.int .i64)] v3 fun (t5 : Option Addr × Int × Unit) =>
    JoinP (T := Unit) (fun J6 =>
     CallP P F_law08_awake [] w4 fun (v9 : Value) w10 =>
      TyP .bool v9 fun (b11 : Bool) =>
       ifB (!b11)
        (R (.bool false) w10)
        (ifB (Option.isNone t5.fst)
         (R (.bool false) w10)
         (ifB (t5.snd.fst != 0)
          (R (.bool false) w10)
          (J6 (some ()) w10))))
     fun t7 w8 =>
     LoopP (T := Option Addr × Int × Unit) (some (t5.fst, (0, ()))) w8 fun next12 t13 w14 =>
      ifB (decide (t13.snd.fst < (↑x0.len : Int)))
       (RunQ .addr P (Instr.indexAt T_sl_penstocklaw08_Op x0.v (.int .i64 t13.snd.fst)) w14 fun (a15 : Addr) =>
        RunQ .val P (Instr.loadAt T_penstocklaw08_Op (.pointer (some a15))) w14 fun (v16 : Value) =>
         RunK .addr P (Instr.alloc T_penstocklaw08_Op true (.tuple #[])) w14 fun (a17 : Addr) w18 =>
          StoreP P T_penstocklaw08_Op (.pointer (some a17)) v16 w18 fun w19 =>
           RunQ (.int .i64) P (Instr.loadAt T_int (.pointer (some (Go.Addr.add a17 0)))) w19 fun (n20 : Int) =>
            ifB (n20 == 0)
             (RunQ .val P (Instr.loadAt T_api_Batch (.pointer (some (Go.Addr.add a17 1)))) w19 fun (v21 : Value) =>
              CallP P F_ref07_Copy [v21] w19 fun (v22 : Value) w23 =>
               TyP .val v22 fun (v24 : Value) =>
                RunK .addr P (Instr.alloc T_api_Batch true (.tuple #[])) w23 fun (a25 : Addr) w26 =>
                StoreP P T_api_Batch (.pointer (some a25)) v24 w26 fun w27 =>
                CallP P F_seglog_Log_End [(.pointer t13.fst)] w27 fun (v28 : Value) w29 =>
                TyP (.int .i64) v28 fun (n30 : Int) =>
                StoreP P T_int (.pointer (some (Go.Addr.add a25 0))) (.int .i64 n30) w29 fun w31 =>
                RunQ .val P (Instr.loadAt T_api_Batch (.pointer (some a25))) w31 fun (v32 : Value) =>
                CallP P F_seglog_Log_Put [(.pointer t13.fst), v32] w31 fun (v33 : Value) w34 =>
                TyP (.int .i64) v33 fun (n35 : Int) =>
                next12 (some (t13.fst, ((IntKind.i64.wrap (t13.snd.fst + 1)), ()))) w34)
             (ifB (n20 == 1)
              (RunQ .val P (Instr.loadAt T_api_Batch (.pointer (some (Go.Addr.add a17 1)))) w19 fun (v36 : Value) =>
               CallP P F_ref07_Copy [v36] w19 fun (v37 : Value) w38 =>
                TyP .val v37 fun (v39 : Value) =>
                RunK .addr P (Instr.alloc T_api_Batch true (.tuple #[])) w38 fun (a40 : Addr) w41 =>
                StoreP P T_api_Batch (.pointer (some a40)) v39 w41 fun w42 =>
                CallP P F_seglog_Log_End [(.pointer t13.fst)] w42 fun (v43 : Value) w44 =>
                TyP (.int .i64) v43 fun (n45 : Int) =>
                StoreP P T_int (.pointer (some (Go.Addr.add a40 0))) (.int .i64 n45) w44 fun w46 =>
                RunQ .val P (Instr.loadAt T_api_Batch (.pointer (some a40))) w46 fun (v47 : Value) =>
                CallP P F_seglog_Log_Put [(.pointer t13.fst), v47] w46 fun (v48 : Value) w49 =>
                TyP (.int .i64) v48 fun (n50 : Int) =>
                next12 (some (t13.fst, ((IntKind.i64.wrap (t13.snd.fst + 1)), ()))) w49)
              (ifB (n20 == 2)
               (CallP P F_seglog_Log_Flush [(.pointer t13.fst)] w19 fun (v51 : Value) w52 =>
                TyP (.int .i64) v51 fun (n53 : Int) =>
                next12 (some (t13.fst, ((IntKind.i64.wrap (t13.snd.fst + 1)), ()))) w52)
               (ifB (n20 == 3)
                (CallP P F_disk_Disk_Dead [(.pointer p2)] w19 fun (v54 : Value) w55 =>
                TyP .bool v54 fun (b56 : Bool) =>
                ifB (!b56)
                (RunQ (.int .i64) P (Instr.loadAt T_int (.pointer (some (Go.Addr.add a17 10)))) w55 fun (n57 : Int) =>
                CallP P F_seglog_Log_Truncate [(.pointer t13.fst), (.int .i64 n57)] w55 fun (v58 : Value) w59 =>
                TyP (.int .i64) v58 fun (n60 : Int) =>
                next12 (some (t13.fst, ((IntKind.i64.wrap (t13.snd.fst + 1)), ()))) w59)
                (next12 (some (t13.fst, ((IntKind.i64.wrap (t13.snd.fst + 1)), ()))) w55))
                (ifB (n20 == 4)
                (CallP P F_disk_Disk_Dead [(.pointer p2)] w19 fun (v61 : Value) w62 =>
                TyP .bool v61 fun (b63 : Bool) =>
                ifB (!b63)
                (RunQ (.int .i64) P (Instr.loadAt T_int (.pointer (some (Go.Addr.add a17 10)))) w62 fun (n64 : Int) =>
                CallP P F_seglog_Log_Drop [(.pointer t13.fst), (.int .i64 n64)] w62 fun (v65 : Value) w66 =>
                TyP (.int .i64) v65 fun (n67 : Int) =>
                next12 (some (t13.fst, ((IntKind.i64.wrap (t13.snd.fst + 1)), ()))) w66)
                (next12 (some (t13.fst, ((IntKind.i64.wrap (t13.snd.fst + 1)), ()))) w62))
                (ifB (n20 == 5)
                (CallP P F_seglog_Log_Start [(.pointer t13.fst)] w19 fun (v68 : Value) w69 =>
                TyP (.int .i64) v68 fun (n70 : Int) =>
                CallP P F_seglog_Log_Read [(.pointer t13.fst), (.int .i64 n70), (.int .i64 1048576)] w69 fun (v71 : Value) w72 =>
                TyP .sl v71 fun (s73 : Sl) =>
                CallP P F_seglog_Log_Start [(.pointer t13.fst)] w72 fun (v74 : Value) w75 =>
                TyP (.int .i64) v74 fun (n76 : Int) =>
                CallP P F_seglog_Log_Synced [(.pointer t13.fst)] w75 fun (v77 : Value) w78 =>
                TyP (.int .i64) v77 fun (n79 : Int) =>
                RunQ (.int .i64) P (Instr.loadAt T_int (.pointer (some (Go.Addr.add a17 10)))) w78 fun (n80 : Int) =>
                CallP P F_disk_Disk_Crash [(.pointer p2), (.int .i64 n80)] w78 fun (v81 : Value) w82 =>
                TupP [] v81 fun (t83 : Unit) =>
                CallP P F_seglog_Open [(.pointer p2), (.string (ByteArray.mk #[108, 111, 103]))] w82 fun (v84 : Value) w85 =>
                TupP [.ptr, (.int .i64)] v84 fun (t86 : Option Addr × Int × Unit) =>
                JoinP (T := Unit) (fun J87 =>
                ifB (Option.isNone t86.fst)
                (R (.bool false) w85)
                (ifB (t86.snd.fst != 0)
                (R (.bool false) w85)
                (J87 (some ()) w85)))
                fun t88 w89 =>
                CallP P F_seglog_Log_Start [(.pointer t86.fst)] w89 fun (v90 : Value) w91 =>
                TyP (.int .i64) v90 fun (n92 : Int) =>
                CallP P F_seglog_Log_Read [(.pointer t86.fst), (.int .i64 n92), (.int .i64 1048576)] w91 fun (v93 : Value) w94 =>
                TyP .sl v93 fun (s95 : Sl) =>
                ifB (decide ((↑s73.len : Int) > 0))
                (CallP P F_seglog_Log_Start [(.pointer t86.fst)] w94 fun (v96 : Value) w97 =>
                TyP (.int .i64) v96 fun (n98 : Int) =>
                ifB (n98 != n76)
                (R (.bool false) w97)
                (ifB (decide ((↑s95.len : Int) > (↑s73.len : Int)))
                (R (.bool false) w97)
                (RunQ .sl P (Instr.sliceAt T_sl_api_Batch s73.v none (some (.int .i64 ((↑s95.len : Int)))) none) w97 fun (s99 : Sl) =>
                CallP P F_ref07_SameList [s95.v, s99.v] w97 fun (v100 : Value) w101 =>
                TyP .bool v100 fun (b102 : Bool) =>
                ifB (!b102)
                (R (.bool false) w101)
                (CallP P F_seglog_Log_End [(.pointer t86.fst)] w101 fun (v103 : Value) w104 =>
                TyP (.int .i64) v103 fun (n105 : Int) =>
                ifB (decide (n105 < n79))
                (R (.bool false) w104)
                (CallP P F_seglog_Log_Synced [(.pointer t86.fst)] w104 fun (v106 : Value) w107 =>
                TyP (.int .i64) v106 fun (n108 : Int) =>
                CallP P F_seglog_Log_End [(.pointer t86.fst)] w107 fun (v109 : Value) w110 =>
                TyP (.int .i64) v109 fun (n111 : Int) =>
                ifB (n108 != n111)
                (R (.bool false) w110)
                (next12 (some (t86.fst, ((IntKind.i64.wrap (t13.snd.fst + 1)), ()))) w110))))))
                (ifB (decide ((↑s95.len : Int) > (↑s73.len : Int)))
                (R (.bool false) w94)
                (RunQ .sl P (Instr.sliceAt T_sl_api_Batch s73.v none (some (.int .i64 ((↑s95.len : Int)))) none) w94 fun (s112 : Sl) =>
                CallP P F_ref07_SameList [s95.v, s112.v] w94 fun (v113 : Value) w114 =>
                TyP .bool v113 fun (b115 : Bool) =>
                ifB (!b115)
                (R (.bool false) w114)
                (CallP P F_seglog_Log_End [(.pointer t86.fst)] w114 fun (v116 : Value) w117 =>
                TyP (.int .i64) v116 fun (n118 : Int) =>
                ifB (decide (n118 < n79))
                (R (.bool false) w117)
                (CallP P F_seglog_Log_Synced [(.pointer t86.fst)] w117 fun (v119 : Value) w120 =>
                TyP (.int .i64) v119 fun (n121 : Int) =>
                CallP P F_seglog_Log_End [(.pointer t86.fst)] w120 fun (v122 : Value) w123 =>
                TyP (.int .i64) v122 fun (n124 : Int) =>
                ifB (n121 != n124)
                (R (.bool false) w123)
                (next12 (some (t86.fst, ((IntKind.i64.wrap (t13.snd.fst + 1)), ()))) w123))))))
                (ifB (n20 == 7)
                (RunQ (.int .i64) P (Instr.loadAt T_int (.pointer (some (Go.Addr.add a17 10)))) w19 fun (n125 : Int) =>
                CallP P F_disk_Disk_Arm [(.pointer p2), (.int .i64 n125)] w19 fun (v126 : Value) w127 =>
                TupP [] v126 fun (t128 : Unit) =>
                next12 (some (t13.fst, ((IntKind.i64.wrap (t13.snd.fst + 1)), ()))) w127)
                (next12 (some (t13.fst, ((IntKind.i64.wrap (t13.snd.fst + 1)), ()))) w19))))))))
       (R (.bool true) w14)
def an_law08_SegLasts : Ann := ⟨[(28, []), (5, [])], [(6, [(4, .ptr), (33, (.int .i64))])], []⟩
theorem e_law08_SegLasts (R : Value → World → Prop) (x0 : Sl) (w : World) : denF P an_law08_SegLasts Tryz.f7 [x0.v] w R = S_law08_SegLasts R x0 w := by kernel_rfl
theorem c_law08_SegLasts {R : Value → World → Prop} {x0 : Sl} {w : World} (h : S_law08_SegLasts R x0 w) : CallP P F_law08_SegLasts [x0.v] w R := calls_of_denF (an := an_law08_SegLasts) Tryz.func7 (by rw [e_law08_SegLasts]; exact h)


/-- penstock/penstocklaw08.awake -/
def S_law08_awake (R : Value → World → Prop) (w : World) : Prop :=
 CallP P F_disk_New [] w fun (v0 : Value) w1 =>
 TyP .ptr v0 fun (p2 : Option Addr) =>
  CallP P F_seglog_Open [(.pointer p2), (.string (ByteArray.mk #[112, 48]))] w1 fun (v3 : Value) w4 =>
   TupP [.ptr, (.int .i64)] v3 fun (t5 : Option Addr × Int × Unit) =>
    JoinP (T := Unit) (fun J6 =>
     ifB (Option.isNone t5.fst)
      (R (.bool false) w4)
      (ifB (t5.snd.fst != 0)
       (R (.bool false) w4)
       (RunK .sl P (Instr.buildSlice T_sl_sl_uint8 3 #[(0, (.slice none 0 0)), (1, (.slice none 0 0)), (2, (.slice none 0 0))]) w4 fun (s9 : Sl) w10 =>
        CallP P F_seglog_Log_Put [(.pointer t5.fst), (.agg #[(.int .i64 0), (.int .i64 0), (.int .u64 0), (.int .i64 0), (.int .i64 0), (.bool false), (.bool false), (.bool false), s9.v])] w10 fun (v11 : Value) w12 =>
         TyP (.int .i64) v11 fun (n13 : Int) =>
          ifB (n13 != 0)
           (R (.bool false) w12)
           (CallP P F_seglog_Log_End [(.pointer t5.fst)] w12 fun (v14 : Value) w15 =>
            TyP (.int .i64) v14 fun (n16 : Int) =>
             ifB (n16 != 3)
              (R (.bool false) w15)
              (CallP P F_seglog_Log_Synced [(.pointer t5.fst)] w15 fun (v17 : Value) w18 =>
               TyP (.int .i64) v17 fun (n19 : Int) =>
                ifB (n19 != 0)
                (R (.bool false) w18)
                (CallP P F_seglog_Log_Flush [(.pointer t5.fst)] w18 fun (v20 : Value) w21 =>
                TyP (.int .i64) v20 fun (n22 : Int) =>
                ifB (n22 != 0)
                (R (.bool false) w21)
                (J6 (some ()) w21)))))))
     fun t7 w8 =>
     CallP P F_disk_Disk_Crash [(.pointer p2), (.int .i64 0)] w8 fun (v23 : Value) w24 =>
      TupP [] v23 fun (t25 : Unit) =>
       CallP P F_seglog_Open [(.pointer p2), (.string (ByteArray.mk #[112, 48]))] w24 fun (v26 : Value) w27 =>
        TupP [.ptr, (.int .i64)] v26 fun (t28 : Option Addr × Int × Unit) =>
         ifB (!Option.isNone t28.fst)
          (ifB (t28.snd.fst == 0)
           (CallP P F_seglog_Log_End [(.pointer t28.fst)] w27 fun (v29 : Value) w30 =>
            TyP (.int .i64) v29 fun (n31 : Int) =>
             ifB (n31 == 3)
              (CallP P F_seglog_Log_Read [(.pointer t28.fst), (.int .i64 0), (.int .i64 9)] w30 fun (v32 : Value) w33 =>
               TyP .sl v32 fun (s34 : Sl) =>
                R (.bool ((↑s34.len : Int) == 1)) w33)
              (R (.bool false) w30))
           (R (.bool false) w27))
          (R (.bool false) w27)
def an_law08_awake : Ann := ⟨[(5, [])], [], []⟩
theorem e_law08_awake (R : Value → World → Prop) (w : World) : denF P an_law08_awake Tryz.f11 [] w R = S_law08_awake R  w := by kernel_rfl
theorem c_law08_awake {R : Value → World → Prop} {w : World} (h : S_law08_awake R  w) : CallP P F_law08_awake [] w R := calls_of_denF (an := an_law08_awake) Tryz.func11 (by rw [e_law08_awake]; exact h)

end Go.Proofs.YtbpcichakchpkaaGreatDoor
