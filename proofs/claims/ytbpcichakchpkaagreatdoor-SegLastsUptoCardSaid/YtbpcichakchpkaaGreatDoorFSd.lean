/- The functions of the program as predicates over worlds, written by a program of mine (PkPrint); each is held against the code by the kernel. -/
import Derived.Test.YtbpcichakchpkaaGreatDoorN
namespace Go.Proofs.YtbpcichakchpkaaGreatDoor
open Go Go.Pk
/-- penstock/penstockref07.Copy -/
def S_ref07_Copy (R : Value → World → Prop) (x0 : Value) (w : World) : Prop :=
 RunK .addr P (Instr.box T_api_Batch x0) w fun (a0 : Addr) w1 =>
 RunK .addr P (Instr.alloc T_api_Batch true (.tuple #[])) w1 fun (a2 : Addr) w3 =>
  LoopP (T := Sl × Int × Unit) (some (⟨none, 0, 0⟩, (0, ()))) w3 fun next4 t5 w6 =>
   RunQ .sl P (Instr.loadAt T_sl_sl_uint8 (.pointer (some (Go.Addr.add a0 8)))) w6 fun (s7 : Sl) =>
    ifB (decide (t5.snd.fst < (↑s7.len : Int)))
     (RunQ .sl P (Instr.loadAt T_sl_sl_uint8 (.pointer (some (Go.Addr.add a0 8)))) w6 fun (s8 : Sl) =>
      RunQ .addr P (Instr.indexAt T_sl_sl_uint8 s8.v (.int .i64 t5.snd.fst)) w6 fun (a9 : Addr) =>
       RunQ .sl P (Instr.loadAt T_sl_uint8 (.pointer (some a9))) w6 fun (s10 : Sl) =>
        RunK .sl P (Builtin.append_ #[T_sl_uint8, T_sl_uint8] T_sl_uint8 #[(.slice none 0 0), s10.v]) w6 fun (s11 : Sl) w12 =>
         RunK .sl P (Instr.buildSlice T_sl_sl_uint8 1 #[(0, s11.v)]) w12 fun (s13 : Sl) w14 =>
          RunK .sl P (Builtin.append_ #[T_sl_sl_uint8, T_sl_sl_uint8] T_sl_sl_uint8 #[t5.fst.v, s13.v]) w14 fun (s15 : Sl) w16 =>
           next4 (some (s15, ((IntKind.i64.wrap (t5.snd.fst + 1)), ()))) w16)
     (StoreP P T_sl_sl_uint8 (.pointer (some (Go.Addr.add a0 8))) t5.fst.v w6 fun w17 =>
      RunQ .val P (Instr.loadAt T_api_Batch (.pointer (some a0))) w17 fun (v18 : Value) =>
       StoreP P T_api_Batch (.pointer (some a2)) v18 w17 fun w19 =>
        LoadK .val P T_api_Batch (.pointer (some a2)) w19 fun (v20 : Value) =>
         R v20 w19)
def an_ref07_Copy : Ann := ⟨[], [(3, [(3, .sl), (4, (.int .i64))])], []⟩
theorem e_ref07_Copy (R : Value → World → Prop) (x0 : Value) (w : World) : denF P an_ref07_Copy Tryz.f14 [x0] w R = S_ref07_Copy R x0 w := by kernel_rfl
theorem c_ref07_Copy {R : Value → World → Prop} {x0 : Value} {w : World} (h : S_ref07_Copy R x0 w) : CallP P F_ref07_Copy [x0] w R := calls_of_denF (an := an_ref07_Copy) Tryz.func14 (by rw [e_ref07_Copy]; exact h)


/-- penstock/penstockref07.SameList -/
def S_ref07_SameList (R : Value → World → Prop) (x0 : Sl) (x1 : Sl) (w : World) : Prop :=
 ifB ((↑x0.len : Int) != (↑x1.len : Int))
 (R (.bool false) w)
 (LoopP (T := Int × Unit) (some (0, ())) w fun next0 t1 w2 =>
  ifB (decide (t1.fst < (↑x0.len : Int)))
   (∃ S3 : World → Prop, (S3 w2.drew) ∧
     HRun S3 .addr P (Instr.indexAt T_sl_api_Batch x0.v (.int .i64 t1.fst)) fun (a4 : Addr) =>
      HRun S3 .val P (Instr.loadAt T_api_Batch (.pointer (some a4))) fun (v5 : Value) =>
       HRun S3 .addr P (Instr.indexAt T_sl_api_Batch x1.v (.int .i64 t1.fst)) fun (a6 : Addr) =>
        HRun S3 .val P (Instr.loadAt T_api_Batch (.pointer (some a6))) fun (v7 : Value) =>
         CallP P F_ref07_Same [v5, v7] w2.drew fun (v8 : Value) w9 =>
          TyP .bool v8 fun (b10 : Bool) =>
           (S3 w9) ∧
            ifB (!b10)
             (R (.bool false) w9)
             (next0 (some ((IntKind.i64.wrap (t1.fst + 1)), ())) w9))
   (R (.bool true) w2))
def an_ref07_SameList : Ann := ⟨[], [(4, [(5, (.int .i64))])], []⟩
theorem e_ref07_SameList (R : Value → World → Prop) (x0 : Sl) (x1 : Sl) (w : World) : denF P an_ref07_SameList Tryz.f17 [x0.v, x1.v] w R = S_ref07_SameList R x0 x1 w := by kernel_rfl
theorem c_ref07_SameList {R : Value → World → Prop} {x0 : Sl} {x1 : Sl} {w : World} (h : S_ref07_SameList R x0 x1 w) : CallP P F_ref07_SameList [x0.v, x1.v] w R := calls_of_denF (an := an_ref07_SameList) Tryz.func17 (by rw [e_ref07_SameList]; exact h)


/-- penstock/penstockref03.Same -/
def S_ref03_Same (R : Value → World → Prop) (x0 : Sl) (x1 : Sl) (w : World) : Prop :=
 ifB ((↑x0.len : Int) != (↑x1.len : Int))
 (R (.bool false) w)
 (LoopP (T := Int × Unit) (some (0, ())) w fun next0 t1 w2 =>
  ifB (decide (t1.fst < (↑x0.len : Int)))
   (RunQ .addr P (Instr.indexAt T_sl_uint8 x0.v (.int .i64 t1.fst)) w2.drew fun (a3 : Addr) =>
    RunQ (.int .u8) P (Instr.loadAt T_uint8 (.pointer (some a3))) w2.drew fun (n4 : Int) =>
     RunQ .addr P (Instr.indexAt T_sl_uint8 x1.v (.int .i64 t1.fst)) w2.drew fun (a5 : Addr) =>
      RunQ (.int .u8) P (Instr.loadAt T_uint8 (.pointer (some a5))) w2.drew fun (n6 : Int) =>
       ifB (n4 != n6)
        (R (.bool false) w2.drew)
        (next0 (some ((IntKind.i64.wrap (t1.fst + 1)), ())) w2.drew))
   (R (.bool true) w2))
def an_ref03_Same : Ann := ⟨[], [(4, [(5, (.int .i64))])], []⟩
theorem e_ref03_Same (R : Value → World → Prop) (x0 : Sl) (x1 : Sl) (w : World) : denF P an_ref03_Same Tryz.f21 [x0.v, x1.v] w R = S_ref03_Same R x0 x1 w := by kernel_rfl
theorem c_ref03_Same {R : Value → World → Prop} {x0 : Sl} {x1 : Sl} {w : World} (h : S_ref03_Same R x0 x1 w) : CallP P F_ref03_Same [x0.v, x1.v] w R := calls_of_denF (an := an_ref03_Same) Tryz.func21 (by rw [e_ref03_Same]; exact h)


/-- penstock/penstockref07.Same -/
def S_ref07_Same (R : Value → World → Prop) (x0 : Value) (x1 : Value) (w : World) : Prop :=
 RunK .addr P (Instr.box T_api_Batch x0) w fun (a0 : Addr) w1 =>
 RunK .addr P (Instr.box T_api_Batch x1) w1 fun (a2 : Addr) w3 =>
  JoinP (T := Unit) (fun J4 =>
   RunQ (.int .i64) P (Instr.loadAt T_int (.pointer (some (Go.Addr.add a0 0)))) w3 fun (n7 : Int) =>
    RunQ (.int .i64) P (Instr.loadAt T_int (.pointer (some (Go.Addr.add a2 0)))) w3 fun (n8 : Int) =>
     ifB (n7 != n8)
      (R (.bool false) w3)
      (RunQ (.int .i64) P (Instr.loadAt T_int (.pointer (some (Go.Addr.add a0 1)))) w3 fun (n9 : Int) =>
       RunQ (.int .i64) P (Instr.loadAt T_int (.pointer (some (Go.Addr.add a2 1)))) w3 fun (n10 : Int) =>
        ifB (n9 != n10)
         (R (.bool false) w3)
         (RunQ (.int .u64) P (Instr.loadAt T_uint64 (.pointer (some (Go.Addr.add a0 2)))) w3 fun (n11 : Int) =>
          RunQ (.int .u64) P (Instr.loadAt T_uint64 (.pointer (some (Go.Addr.add a2 2)))) w3 fun (n12 : Int) =>
           ifB (n11 != n12)
            (R (.bool false) w3)
            (RunQ (.int .i64) P (Instr.loadAt T_int (.pointer (some (Go.Addr.add a0 3)))) w3 fun (n13 : Int) =>
             RunQ (.int .i64) P (Instr.loadAt T_int (.pointer (some (Go.Addr.add a2 3)))) w3 fun (n14 : Int) =>
              ifB (n13 != n14)
               (R (.bool false) w3)
               (RunQ (.int .i64) P (Instr.loadAt T_int (.pointer (some (Go.Addr.add a0 4)))) w3 fun (n15 : Int) =>
                RunQ (.int .i64) P (Instr.loadAt T_int (.pointer (some (Go.Addr.add a2 4)))) w3 fun (n16 : Int) =>
                ifB (n15 != n16)
                (R (.bool false) w3)
                (RunQ .bool P (Instr.loadAt T_bool (.pointer (some (Go.Addr.add a0 5)))) w3 fun (b17 : Bool) =>
                RunQ .bool P (Instr.loadAt T_bool (.pointer (some (Go.Addr.add a2 5)))) w3 fun (b18 : Bool) =>
                ifB (!b17 == b18)
                (R (.bool false) w3)
                (RunQ .bool P (Instr.loadAt T_bool (.pointer (some (Go.Addr.add a0 6)))) w3 fun (b19 : Bool) =>
                RunQ .bool P (Instr.loadAt T_bool (.pointer (some (Go.Addr.add a2 6)))) w3 fun (b20 : Bool) =>
                ifB (!b19 == b20)
                (R (.bool false) w3)
                (RunQ .bool P (Instr.loadAt T_bool (.pointer (some (Go.Addr.add a0 7)))) w3 fun (b21 : Bool) =>
                RunQ .bool P (Instr.loadAt T_bool (.pointer (some (Go.Addr.add a2 7)))) w3 fun (b22 : Bool) =>
                ifB (!b21 == b22)
                (R (.bool false) w3)
                (RunQ .sl P (Instr.loadAt T_sl_sl_uint8 (.pointer (some (Go.Addr.add a0 8)))) w3 fun (s23 : Sl) =>
                RunQ .sl P (Instr.loadAt T_sl_sl_uint8 (.pointer (some (Go.Addr.add a2 8)))) w3 fun (s24 : Sl) =>
                ifB ((↑s23.len : Int) != (↑s24.len : Int))
                (R (.bool false) w3)
                (J4 (some ()) w3))))))))))
   fun t5 w6 =>
   LoopP (T := Int × Unit) (some (0, ())) w6 fun next25 t26 w27 =>
    RunQ .sl P (Instr.loadAt T_sl_sl_uint8 (.pointer (some (Go.Addr.add a0 8)))) w27 fun (s28 : Sl) =>
     ifB (decide (t26.fst < (↑s28.len : Int)))
      (∃ S29 : World → Prop, (S29 w27.drew) ∧
        HRun S29 .sl P (Instr.loadAt T_sl_sl_uint8 (.pointer (some (Go.Addr.add a0 8)))) fun (s30 : Sl) =>
         HRun S29 .addr P (Instr.indexAt T_sl_sl_uint8 s30.v (.int .i64 t26.fst)) fun (a31 : Addr) =>
          HRun S29 .sl P (Instr.loadAt T_sl_uint8 (.pointer (some a31))) fun (s32 : Sl) =>
           HRun S29 .sl P (Instr.loadAt T_sl_sl_uint8 (.pointer (some (Go.Addr.add a2 8)))) fun (s33 : Sl) =>
            HRun S29 .addr P (Instr.indexAt T_sl_sl_uint8 s33.v (.int .i64 t26.fst)) fun (a34 : Addr) =>
             HRun S29 .sl P (Instr.loadAt T_sl_uint8 (.pointer (some a34))) fun (s35 : Sl) =>
              CallP P F_ref03_Same [s32.v, s35.v] w27.drew fun (v36 : Value) w37 =>
               TyP .bool v36 fun (b38 : Bool) =>
                (S29 w37) ∧
                ifB (!b38)
                (R (.bool false) w37)
                (next25 (some ((IntKind.i64.wrap (t26.fst + 1)), ())) w37))
      (R (.bool true) w27)
def an_ref07_Same : Ann := ⟨[(3, [])], [(4, [(5, (.int .i64))])], []⟩
theorem e_ref07_Same (R : Value → World → Prop) (x0 : Value) (x1 : Value) (w : World) : denF P an_ref07_Same Tryz.f59 [x0, x1] w R = S_ref07_Same R x0 x1 w := by kernel_rfl
theorem c_ref07_Same {R : Value → World → Prop} {x0 : Value} {x1 : Value} {w : World} (h : S_ref07_Same R x0 x1 w) : CallP P F_ref07_Same [x0, x1] w R := calls_of_denF (an := an_ref07_Same) Tryz.func59 (by rw [e_ref07_Same]; exact h)


end Go.Proofs.YtbpcichakchpkaaGreatDoor
