/- The functions of the program as predicates over worlds, written by a program of mine (PkPrint); each is held against the code by the kernel. -/
import Derived.Test.YtajhdjjmhfbhgaaN
namespace Go.Proofs.Ytajhdjjmhfbhgaa
open Go Go.Pk
/-- penstock/penstockref14.New -/
def S_ref14_New (R : Value → World → Prop) (x0 : Int) (x1 : Int) (w : World) : Prop :=
 RunK .addr P (Instr.box T_penstockref14_Replica (.agg #[(.int .i64 x0), (.int .i64 x1), (.slice none 0 0), (.int .i64 (-1)), (.bool false), (.int .i64 0), (.int .i64 0), (.slice none 0 0), (.slice none 0 0), (.bool false), (.int .i64 0), (.int .i64 0), (.bool false), (.int .i64 0), (.int .i64 0), (.bool false), (.int .i64 0), (.int .i64 0), (.bool false), (.int .i64 0), (.int .i64 0), (.bool false), (.int .i64 0), (.int .i64 0)])) w fun (a0 : Addr) w1 =>
 R (.pointer (some a0)) w1
def an_ref14_New : Ann := ⟨[], [], []⟩
theorem e_ref14_New (R : Value → World → Prop) (x0 : Int) (x1 : Int) (w : World) : denF P an_ref14_New Try.f17 [.int .i64 x0, .int .i64 x1] w R = S_ref14_New R x0 x1 w := by kernel_rfl
theorem c_ref14_New {R : Value → World → Prop} {x0 : Int} {x1 : Int} {w : World} (h : S_ref14_New R x0 x1 w) : CallP P F_ref14_New [.int .i64 x0, .int .i64 x1] w R := calls_of_denF (an := an_ref14_New) Try.func17 (by rw [e_ref14_New]; exact h)


/-- (*penstock/penstockref14.Replica).Lead -/
def S_ref14_Replica_Lead (R : Value → World → Prop) (x0 : Option Addr) (x1 : Int) (x2 : Sl) (w : World) : Prop :=
 nilCk x0 fun (a0 : Addr) =>
 RunQ (.int .i64) P (Instr.loadAt T_int (.pointer (some (a0.add 3)))) w fun (n1 : Int) =>
  ifB (decide (x1 ≤ n1))
   (R (.int .i64 12) w)
   (nilCk x0 fun (a2 : Addr) =>
    StoreP P T_int (.pointer (some (a2.add 3))) (.int .i64 x1) w fun w3 =>
     nilCk x0 fun (a4 : Addr) =>
      StoreP P T_bool (.pointer (some (a4.add 4))) (.bool true) w3 fun w5 =>
       CallP P F_ref14_Replica_End [(.pointer x0)] w5 fun (v6 : Value) w7 =>
        TyP (.int .i64) v6 fun (n8 : Int) =>
         nilCk x0 fun (a9 : Addr) =>
          StoreP P T_int (.pointer (some (a9.add 5))) (.int .i64 n8) w7 fun w10 =>
           CallP P F_ref14_own [x2.v] w10 fun (v11 : Value) w12 =>
            TyP .sl v11 fun (s13 : Sl) =>
             nilCk x0 fun (a14 : Addr) =>
              StoreP P T_sl_int (.pointer (some (a14.add 7))) s13.v w12 fun w15 =>
               nilCk x0 fun (a16 : Addr) =>
                StoreP P T_sl_int (.pointer (some (a16.add 8))) (.slice none 0 0) w15 fun w17 =>
                RunQ .val P (Instr.build T_5_penstockref14_Peer #[]) w17 fun (v18 : Value) =>
                nilCk x0 fun (a19 : Addr) =>
                StoreP P T_5_penstockref14_Peer (.pointer (some (a19.add 9))) v18 w17 fun w20 =>
                CallP P F_ref14_Replica_rise [(.pointer x0)] w20 fun (v21 : Value) w22 =>
                TupP [] v21 fun (t23 : Unit) =>
                R (.int .i64 0) w22)
def an_ref14_Replica_Lead : Ann := ⟨[], [], []⟩
theorem e_ref14_Replica_Lead (R : Value → World → Prop) (x0 : Option Addr) (x1 : Int) (x2 : Sl) (w : World) : denF P an_ref14_Replica_Lead Try.f18 [.pointer x0, .int .i64 x1, x2.v] w R = S_ref14_Replica_Lead R x0 x1 x2 w := by kernel_rfl
theorem c_ref14_Replica_Lead {R : Value → World → Prop} {x0 : Option Addr} {x1 : Int} {x2 : Sl} {w : World} (h : S_ref14_Replica_Lead R x0 x1 x2 w) : CallP P F_ref14_Replica_Lead [.pointer x0, .int .i64 x1, x2.v] w R := calls_of_denF (an := an_ref14_Replica_Lead) Try.func18 (by rw [e_ref14_Replica_Lead]; exact h)


/-- (*penstock/penstockref14.Replica).Produce -/
def S_ref14_Replica_Produce (R : Value → World → Prop) (x0 : Option Addr) (x1 : Value) (w : World) : Prop :=
 RunK .addr P (Instr.box T_api_Batch x1) w fun (a0 : Addr) w1 =>
 nilCk x0 fun (a2 : Addr) =>
  RunQ .bool P (Instr.loadAt T_bool (.pointer (some (a2.add 4)))) w1 fun (b3 : Bool) =>
   ifB (!b3)
    (R (.tuple #[(.int .i64 0), (.int .i64 12)]) w1)
    (StoreP P T_int (.pointer (some (Go.Addr.add a0 0))) (.int .i64 0) w1 fun w4 =>
     StoreP P T_int (.pointer (some (Go.Addr.add a0 1))) (.int .i64 0) w4 fun w5 =>
      CallP P F_ref14_Replica_End [(.pointer x0)] w5 fun (v6 : Value) w7 =>
       TyP (.int .i64) v6 fun (n8 : Int) =>
        CallP P F_ref14_Replica_table [(.pointer x0), (.int .i64 n8)] w7 fun (v9 : Value) w10 =>
         TyP .ptr v9 fun (p11 : Option Addr) =>
          RunQ .val P (Instr.loadAt T_api_Batch (.pointer (some a0))) w10 fun (v12 : Value) =>
           CallP P F_ref09_Table_Check [(.pointer p11), v12] w10 fun (v13 : Value) w14 =>
            TupP [(.int .i64), .bool, (.int .i64)] v13 fun (t15 : Int × Bool × Int × Unit) =>
             JoinP (T := Unit) (fun J16 =>
              ifB (t15.snd.snd.fst != 0)
               (R (.tuple #[(.int .i64 t15.fst), (.int .i64 t15.snd.snd.fst)]) w14)
               (ifB t15.snd.fst
                (R (.tuple #[(.int .i64 t15.fst), (.int .i64 t15.snd.snd.fst)]) w14)
                (J16 (some ()) w14)))
              fun t17 w18 =>
              JoinP (T := Unit) (fun J19 =>
               RunQ .bool P (Instr.loadAt T_bool (.pointer (some (Go.Addr.add a0 6)))) w18 fun (b22 : Bool) =>
                ifB b22
                (RunQ (.int .u64) P (Instr.loadAt T_uint64 (.pointer (some (Go.Addr.add a0 2)))) w18 fun (n23 : Int) =>
                CallP P F_ref09_Table_Known [(.pointer p11), (.int .u64 n23)] w18 fun (v24 : Value) w25 =>
                TupP [(.int .i64), (.int .i64), (.int .i64), .bool] v24 fun (t26 : Int × Int × Int × Bool × Unit) =>
                ifB t26.snd.snd.snd.fst
                (ifB (decide (t26.snd.snd.fst < 0))
                (RunQ (.int .i64) P (Instr.loadAt T_int (.pointer (some (Go.Addr.add a0 3)))) w25 fun (n27 : Int) =>
                ifB (t26.fst == n27)
                (CallP P F_ref14_Replica_End [(.pointer x0)] w25 fun (v28 : Value) w29 =>
                TyP (.int .i64) v28 fun (n30 : Int) =>
                R (.tuple #[(.int .i64 (IntKind.i64.wrap (n30 - 1))), (.int .i64 0)]) w29)
                (J19 (some ()) w25))
                (J19 (some ()) w25))
                (J19 (some ()) w25))
                (J19 (some ()) w18))
               fun t20 w21 =>
               CallP P F_ref14_Replica_End [(.pointer x0)] w21 fun (v31 : Value) w32 =>
                TyP (.int .i64) v31 fun (n33 : Int) =>
                StoreP P T_int (.pointer (some (Go.Addr.add a0 0))) (.int .i64 n33) w32 fun w34 =>
                nilCk x0 fun (a35 : Addr) =>
                RunQ (.int .i64) P (Instr.loadAt T_int (.pointer (some (a35.add 3)))) w34 fun (n36 : Int) =>
                StoreP P T_int (.pointer (some (Go.Addr.add a0 1))) (.int .i64 n36) w34 fun w37 =>
                JoinP (T := Unit) (fun J38 =>
                ∃ S41 : World → Prop, (S41 w37.drew) ∧
                nilCk x0 fun (a42 : Addr) =>
                HRun S41 .val P (Instr.loadAt T_api_Batch (.pointer (some a0))) fun (v43 : Value) =>
                (RunQ .sl P (Instr.loadAt T_sl_api_Batch (.pointer (some (a42.add 2)))) w37.drew fun (s44 : Sl) =>
                (S41 w37.drew) ∧
                CallP P F_ref07_Copy [v43] w37.drew fun (v45 : Value) w46 =>
                TyP .val v45 fun (v47 : Value) =>
                (S41 w46) ∧
                RunK .sl P (Instr.buildSlice T_sl_api_Batch 1 #[(0, v47)]) w46 fun (s48 : Sl) w49 =>
                (S41 w49) ∧
                RunK .sl P (Builtin.append_ #[T_sl_api_Batch, T_sl_api_Batch] T_sl_api_Batch #[s44.v, s48.v]) w49 fun (s50 : Sl) w51 =>
                (S41 w51) ∧
                nilCk x0 fun (a52 : Addr) =>
                StoreP P T_sl_api_Batch (.pointer (some (a52.add 2))) s50.v w51 fun w53 =>
                (S41 w53) ∧
                J38 (some ()) w53) ∧
                (CallP P F_ref07_Copy [v43] w37.drew fun (v54 : Value) w55 =>
                TyP .val v54 fun (v56 : Value) =>
                (S41 w55) ∧
                (RunQ .sl P (Instr.loadAt T_sl_api_Batch (.pointer (some (a42.add 2)))) w55 fun (s57 : Sl) =>
                (S41 w55) ∧
                RunK .sl P (Instr.buildSlice T_sl_api_Batch 1 #[(0, v56)]) w55 fun (s58 : Sl) w59 =>
                (S41 w59) ∧
                RunK .sl P (Builtin.append_ #[T_sl_api_Batch, T_sl_api_Batch] T_sl_api_Batch #[s57.v, s58.v]) w59 fun (s60 : Sl) w61 =>
                (S41 w61) ∧
                nilCk x0 fun (a62 : Addr) =>
                StoreP P T_sl_api_Batch (.pointer (some (a62.add 2))) s60.v w61 fun w63 =>
                (S41 w63) ∧
                J38 (some ()) w63) ∧
                (RunK .sl P (Instr.buildSlice T_sl_api_Batch 1 #[(0, v56)]) w55 fun (s64 : Sl) w65 =>
                (S41 w65) ∧
                RunQ .sl P (Instr.loadAt T_sl_api_Batch (.pointer (some (a42.add 2)))) w65 fun (s66 : Sl) =>
                (S41 w65) ∧
                RunK .sl P (Builtin.append_ #[T_sl_api_Batch, T_sl_api_Batch] T_sl_api_Batch #[s66.v, s64.v]) w65 fun (s67 : Sl) w68 =>
                (S41 w68) ∧
                nilCk x0 fun (a69 : Addr) =>
                StoreP P T_sl_api_Batch (.pointer (some (a69.add 2))) s67.v w68 fun w70 =>
                (S41 w70) ∧
                J38 (some ()) w70) ∧
                True) ∧
                True)
                fun t39 w40 =>
                CallP P F_ref14_Replica_rise [(.pointer x0)] w40 fun (v71 : Value) w72 =>
                TupP [] v71 fun (t73 : Unit) =>
                RunQ (.int .i64) P (Instr.loadAt T_int (.pointer (some (Go.Addr.add a0 0)))) w72 fun (n74 : Int) =>
                R (.tuple #[(.int .i64 n74), (.int .i64 0)]) w72)
def an_ref14_Replica_Produce : Ann := ⟨[(16, []), (13, []), (9, [])], [], [15]⟩
theorem e_ref14_Replica_Produce (R : Value → World → Prop) (x0 : Option Addr) (x1 : Value) (w : World) : denF P an_ref14_Replica_Produce Try.f19 [.pointer x0, x1] w R = S_ref14_Replica_Produce R x0 x1 w := by kernel_rfl
theorem c_ref14_Replica_Produce {R : Value → World → Prop} {x0 : Option Addr} {x1 : Value} {w : World} (h : S_ref14_Replica_Produce R x0 x1 w) : CallP P F_ref14_Replica_Produce [.pointer x0, x1] w R := calls_of_denF (an := an_ref14_Replica_Produce) Try.func19 (by rw [e_ref14_Replica_Produce]; exact h)


/-- penstock/penstocklaw19.committed -/
def S_law19_committed (R : Value → World → Prop) (x0 : Sl) (x1 : Int) (w : World) : Prop :=
 LoopP (T := Sl × Int × Unit) (some (⟨none, 0, 0⟩, (0, ()))) w fun next0 t1 w2 =>
 ifB (decide (t1.snd.fst < (↑x0.len : Int)))
  (RunQ .addr P (Instr.indexAt T_sl_api_Batch x0.v (.int .i64 t1.snd.fst)) w2 fun (a3 : Addr) =>
   RunQ .val P (Instr.loadAt T_api_Batch (.pointer (some a3))) w2 fun (v4 : Value) =>
    RunK .addr P (Instr.alloc T_api_Batch true (.tuple #[])) w2 fun (a5 : Addr) w6 =>
     StoreP P T_api_Batch (.pointer (some a5)) v4 w6 fun w7 =>
      JoinP (T := Bool × Unit) (fun J8 =>
       RunQ .bool P (Instr.loadAt T_bool (.pointer (some (Go.Addr.add a5 6)))) w7 fun (b11 : Bool) =>
        ifB (!b11)
         (RunQ (.int .i64) P (Instr.loadAt T_int (.pointer (some (Go.Addr.add a5 0)))) w7 fun (n12 : Int) =>
          J8 (some ((decide (n12 < x1)), ())) w7)
         (J8 (some (false, ())) w7))
       fun t9 w10 =>
       JoinP (T := Bool × Unit) (fun J13 =>
        LoopP (T := Bool × Int × Unit) (some (t9.fst, ((IntKind.i64.wrap (t1.snd.fst + 1)), ()))) w10 fun next16 t17 w18 =>
         JoinP (T := Unit) (fun J19 =>
          ifB (decide (t17.snd.fst < (↑x0.len : Int)))
           (RunQ .bool P (Instr.loadAt T_bool (.pointer (some (Go.Addr.add a5 5)))) w18 fun (b22 : Bool) =>
            ifB b22
             (J19 (some ()) w18)
             (J13 (some (t17.fst, ())) w18))
           (J13 (some (t17.fst, ())) w18))
          fun t20 w21 =>
          RunQ .addr P (Instr.indexAt T_sl_api_Batch x0.v (.int .i64 t17.snd.fst)) w21.drew fun (a23 : Addr) =>
           RunQ .bool P (Instr.loadAt T_bool (.pointer (some (Go.Addr.add a23 6)))) w21.drew fun (b24 : Bool) =>
            ifB b24
             (RunQ .addr P (Instr.indexAt T_sl_api_Batch x0.v (.int .i64 t17.snd.fst)) w21.drew fun (a25 : Addr) =>
              RunQ (.int .u64) P (Instr.loadAt T_uint64 (.pointer (some (Go.Addr.add a25 2)))) w21.drew fun (n26 : Int) =>
               RunQ (.int .u64) P (Instr.loadAt T_uint64 (.pointer (some (Go.Addr.add a5 2)))) w21.drew fun (n27 : Int) =>
                ifB (n26 == n27)
                (ifB t17.fst
                (RunQ .addr P (Instr.indexAt T_sl_api_Batch x0.v (.int .i64 t17.snd.fst)) w21.drew fun (a28 : Addr) =>
                RunQ .bool P (Instr.loadAt T_bool (.pointer (some (Go.Addr.add a28 7)))) w21.drew fun (b29 : Bool) =>
                J13 (some (b29, ())) w21.drew)
                (J13 (some (false, ())) w21.drew))
                (next16 (some (t17.fst, ((IntKind.i64.wrap (t17.snd.fst + 1)), ()))) w21.drew))
             (next16 (some (t17.fst, ((IntKind.i64.wrap (t17.snd.fst + 1)), ()))) w21.drew))
        fun t14 w15 =>
        ifB t14.fst
         (RunQ .sl P (Instr.loadAt T_sl_sl_uint8 (.pointer (some (Go.Addr.add a5 8)))) w15 fun (s30 : Sl) =>
          LoopP (T := Sl × Int × Unit) (some (t1.fst, (0, ()))) w15 fun next31 t32 w33 =>
           ifB (decide (t32.snd.fst < (↑s30.len : Int)))
            (RunQ .addr P (Instr.indexAt T_sl_sl_uint8 s30.v (.int .i64 t32.snd.fst)) w33 fun (a34 : Addr) =>
             RunQ .sl P (Instr.loadAt T_sl_uint8 (.pointer (some a34))) w33 fun (s35 : Sl) =>
              RunQ (.int .i64) P (Instr.loadAt T_int (.pointer (some (Go.Addr.add a5 0)))) w33 fun (n36 : Int) =>
               RunK .str P (convert T_sl_uint8 T_string s35.v) w33 fun (t37 : ByteArray) w38 =>
                RunK .sl P (Instr.buildSlice T_sl_penstocklaw19_record 1 #[(0, (.agg #[(.int .i64 (IntKind.i64.wrap (n36 + t32.snd.fst))), (.string t37)]))]) w38 fun (s39 : Sl) w40 =>
                RunK .sl P (Builtin.append_ #[T_sl_penstocklaw19_record, T_sl_penstocklaw19_record] T_sl_penstocklaw19_record #[t32.fst.v, s39.v]) w40 fun (s41 : Sl) w42 =>
                next31 (some (s41, ((IntKind.i64.wrap (t32.snd.fst + 1)), ()))) w42)
            (next0 (some (t32.fst, ((IntKind.i64.wrap (t1.snd.fst + 1)), ()))) w33))
         (next0 (some (t1.fst, ((IntKind.i64.wrap (t1.snd.fst + 1)), ()))) w15))
  (R t1.fst.v w2)
def an_law19_committed : Ann := ⟨[(9, []), (11, [(8, .bool)]), (6, [(8, .bool)])], [(7, [(8, .bool), (9, (.int .i64))]), (13, [(5, .sl), (67, (.int .i64))]), (3, [(5, .sl), (14, (.int .i64))])], []⟩
theorem e_law19_committed (R : Value → World → Prop) (x0 : Sl) (x1 : Int) (w : World) : denF P an_law19_committed Try.f20 [x0.v, .int .i64 x1] w R = S_law19_committed R x0 x1 w := by kernel_rfl
theorem c_law19_committed {R : Value → World → Prop} {x0 : Sl} {x1 : Int} {w : World} (h : S_law19_committed R x0 x1 w) : CallP P F_law19_committed [x0.v, .int .i64 x1] w R := calls_of_denF (an := an_law19_committed) Try.func20 (by rw [e_law19_committed]; exact h)


/-- (*penstock/penstockref14.Replica).Stable -/
def S_ref14_Replica_Stable (R : Value → World → Prop) (x0 : Option Addr) (w : World) : Prop :=
 nilCk x0 fun (a0 : Addr) =>
 RunQ (.int .i64) P (Instr.loadAt T_int (.pointer (some (a0.add 6)))) w fun (n1 : Int) =>
  CallP P F_ref14_Replica_table [(.pointer x0), (.int .i64 n1)] w fun (v2 : Value) w3 =>
   TyP .ptr v2 fun (p4 : Option Addr) =>
    CallP P F_ref09_Table_Unstable [(.pointer p4)] w3 fun (v5 : Value) w6 =>
     TupP [(.int .i64), .bool] v5 fun (t7 : Int × Bool × Unit) =>
      ifB t7.snd.fst
       (R (.int .i64 t7.fst) w6)
       (nilCk x0 fun (a8 : Addr) =>
        RunQ (.int .i64) P (Instr.loadAt T_int (.pointer (some (a8.add 6)))) w6 fun (n9 : Int) =>
         R (.int .i64 n9) w6)
def an_ref14_Replica_Stable : Ann := ⟨[], [], []⟩
theorem e_ref14_Replica_Stable (R : Value → World → Prop) (x0 : Option Addr) (w : World) : denF P an_ref14_Replica_Stable Try.f21 [.pointer x0] w R = S_ref14_Replica_Stable R x0 w := by kernel_rfl
theorem c_ref14_Replica_Stable {R : Value → World → Prop} {x0 : Option Addr} {w : World} (h : S_ref14_Replica_Stable R x0 w) : CallP P F_ref14_Replica_Stable [.pointer x0] w R := calls_of_denF (an := an_ref14_Replica_Stable) Try.func21 (by rw [e_ref14_Replica_Stable]; exact h)


/-- (*penstock/penstockref14.Replica).End -/
def S_ref14_Replica_End (R : Value → World → Prop) (x0 : Option Addr) (w : World) : Prop :=
 nilCk x0 fun (a0 : Addr) =>
 RunQ .sl P (Instr.loadAt T_sl_api_Batch (.pointer (some (a0.add 2)))) w fun (s1 : Sl) =>
  ifB ((↑s1.len : Int) == 0)
   (R (.int .i64 0) w)
   (∃ S2 : World → Prop, (S2 w.drew) ∧
     nilCk x0 fun (a3 : Addr) =>
      HRun S2 .sl P (Instr.loadAt T_sl_api_Batch (.pointer (some (a3.add 2)))) fun (s4 : Sl) =>
       nilCk x0 fun (a5 : Addr) =>
        HRun S2 .sl P (Instr.loadAt T_sl_api_Batch (.pointer (some (a5.add 2)))) fun (s6 : Sl) =>
         HRun S2 .addr P (Instr.indexAt T_sl_api_Batch s4.v (.int .i64 (IntKind.i64.wrap ((↑s6.len : Int) - 1)))) fun (a7 : Addr) =>
          HRun S2 .val P (Instr.loadAt T_api_Batch (.pointer (some a7))) fun (v8 : Value) =>
           RunK .addr P (Instr.alloc T_api_Batch true (.tuple #[])) w.drew fun (a9 : Addr) w10 =>
            (S2 w10) ∧
             StoreP P T_api_Batch (.pointer (some a9)) v8 w10 fun w11 =>
              (S2 w11) ∧
               ∃ S12 : World → Prop, (S12 w11.drew) ∧
                HRun S12 (.int .i64) P (Instr.loadAt T_int (.pointer (some (Go.Addr.add a9 0)))) fun (n13 : Int) =>
                HRun S12 .val P (Instr.loadAt T_api_Batch (.pointer (some a9))) fun (v14 : Value) =>
                CallP P F_ref07_Size [v14] w11.drew fun (v15 : Value) w16 =>
                TyP (.int .i64) v15 fun (n17 : Int) =>
                (S12 w16) ∧
                R (.int .i64 (IntKind.i64.wrap (n13 + n17))) w16)
def an_ref14_Replica_End : Ann := ⟨[], [], []⟩
theorem e_ref14_Replica_End (R : Value → World → Prop) (x0 : Option Addr) (w : World) : denF P an_ref14_Replica_End Try.f37 [.pointer x0] w R = S_ref14_Replica_End R x0 w := by kernel_rfl
theorem c_ref14_Replica_End {R : Value → World → Prop} {x0 : Option Addr} {w : World} (h : S_ref14_Replica_End R x0 w) : CallP P F_ref14_Replica_End [.pointer x0] w R := calls_of_denF (an := an_ref14_Replica_End) Try.func37 (by rw [e_ref14_Replica_End]; exact h)


/-- penstock/penstockref14.own -/
def S_ref14_own (R : Value → World → Prop) (x0 : Sl) (w : World) : Prop :=
 RunK .sl P (Builtin.append_ #[T_sl_int, T_sl_int] T_sl_int #[(.slice none 0 0), x0.v]) w fun (s0 : Sl) w1 =>
 R s0.v w1
def an_ref14_own : Ann := ⟨[], [], []⟩
theorem e_ref14_own (R : Value → World → Prop) (x0 : Sl) (w : World) : denF P an_ref14_own Try.f38 [x0.v] w R = S_ref14_own R x0 w := by kernel_rfl
theorem c_ref14_own {R : Value → World → Prop} {x0 : Sl} {w : World} (h : S_ref14_own R x0 w) : CallP P F_ref14_own [x0.v] w R := calls_of_denF (an := an_ref14_own) Try.func38 (by rw [e_ref14_own]; exact h)


/-- (*penstock/penstockref14.Replica).rise -/
def S_ref14_Replica_rise (R : Value → World → Prop) (x0 : Option Addr) (w : World) : Prop :=
 CallP P F_ref14_Replica_End [(.pointer x0)] w fun (v0 : Value) w1 =>
 TyP (.int .i64) v0 fun (n2 : Int) =>
  nilCk x0 fun (a3 : Addr) =>
   RunQ .sl P (Instr.loadAt T_sl_int (.pointer (some (a3.add 7)))) w1 fun (s4 : Sl) =>
    RunK .sl P (Builtin.append_ #[T_sl_int, T_sl_int] T_sl_int #[(.slice none 0 0), s4.v]) w1 fun (s5 : Sl) w6 =>
     nilCk x0 fun (a7 : Addr) =>
      RunQ .sl P (Instr.loadAt T_sl_int (.pointer (some (a7.add 8)))) w6 fun (s8 : Sl) =>
       RunK .sl P (Builtin.append_ #[T_sl_int, T_sl_int] T_sl_int #[s5.v, s8.v]) w6 fun (s9 : Sl) w10 =>
        LoopP (T := Int × Int × Unit) (some (n2, (0, ()))) w10 fun next11 t12 w13 =>
         ifB (decide (t12.snd.fst < (↑s9.len : Int)))
          (JoinP (T := Int × Unit) (fun J14 =>
           RunQ .addr P (Instr.indexAt T_sl_int s9.v (.int .i64 t12.snd.fst)) w13.drew fun (a17 : Addr) =>
            RunQ (.int .i64) P (Instr.loadAt T_int (.pointer (some a17))) w13.drew fun (n18 : Int) =>
             nilCk x0 fun (a19 : Addr) =>
              RunQ (.int .i64) P (Instr.loadAt T_int (.pointer (some (a19.add 1)))) w13.drew fun (n20 : Int) =>
               ifB (n18 == n20)
                (CallP P F_ref14_Replica_End [(.pointer x0)] w13.drew fun (v21 : Value) w22 =>
                TyP (.int .i64) v21 fun (n23 : Int) =>
                J14 (some (n23, ())) w22)
                (RunQ .addr P (Instr.indexAt T_sl_int s9.v (.int .i64 t12.snd.fst)) w13.drew.drew fun (a24 : Addr) =>
                RunQ (.int .i64) P (Instr.loadAt T_int (.pointer (some a24))) w13.drew.drew fun (n25 : Int) =>
                ifB (decide (n25 ≥ 0))
                (RunQ .addr P (Instr.indexAt T_sl_int s9.v (.int .i64 t12.snd.fst)) w13.drew.drew fun (a26 : Addr) =>
                RunQ (.int .i64) P (Instr.loadAt T_int (.pointer (some a26))) w13.drew.drew fun (n27 : Int) =>
                ifB (decide (n27 < 5))
                (RunQ .addr P (Instr.indexAt T_sl_int s9.v (.int .i64 t12.snd.fst)) w13.drew.drew fun (a28 : Addr) =>
                RunQ (.int .i64) P (Instr.loadAt T_int (.pointer (some a28))) w13.drew.drew fun (n29 : Int) =>
                nilCk x0 fun (a30 : Addr) =>
                RunQ .addr P (Instr.indexAt T_5_penstockref14_Peer (.pointer (some (a30.add 9))) (.int .i64 n29)) w13.drew.drew fun (a31 : Addr) =>
                RunQ .bool P (Instr.loadAt T_bool (.pointer (some (Go.Addr.add a31 0)))) w13.drew.drew fun (b32 : Bool) =>
                ifB b32
                (RunQ .addr P (Instr.indexAt T_sl_int s9.v (.int .i64 t12.snd.fst)) w13.drew.drew.drew fun (a33 : Addr) =>
                RunQ (.int .i64) P (Instr.loadAt T_int (.pointer (some a33))) w13.drew.drew.drew fun (n34 : Int) =>
                nilCk x0 fun (a35 : Addr) =>
                RunQ .addr P (Instr.indexAt T_5_penstockref14_Peer (.pointer (some (a35.add 9))) (.int .i64 n34)) w13.drew.drew.drew fun (a36 : Addr) =>
                RunQ (.int .i64) P (Instr.loadAt T_int (.pointer (some (Go.Addr.add a36 1)))) w13.drew.drew.drew fun (n37 : Int) =>
                J14 (some (n37, ())) w13.drew.drew.drew)
                (J14 (some ((-1), ())) w13.drew.drew))
                (J14 (some ((-1), ())) w13.drew.drew))
                (J14 (some ((-1), ())) w13.drew.drew)))
           fun t15 w16 =>
           ifB (decide (t15.fst < t12.fst))
            (next11 (some (t15.fst, ((IntKind.i64.wrap (t12.snd.fst + 1)), ()))) w16)
            (next11 (some (t12.fst, ((IntKind.i64.wrap (t12.snd.fst + 1)), ()))) w16))
          (nilCk x0 fun (a38 : Addr) =>
           RunQ (.int .i64) P (Instr.loadAt T_int (.pointer (some (a38.add 6)))) w13 fun (n39 : Int) =>
            ifB (decide (t12.fst > n39))
             (nilCk x0 fun (a40 : Addr) =>
              StoreP P T_int (.pointer (some (a40.add 6))) (.int .i64 t12.fst) w13 fun w41 =>
               R (.tuple #[]) w41)
             (R (.tuple #[]) w13))
def an_ref14_Replica_rise : Ann := ⟨[(12, [(5, (.int .i64))])], [(5, [(2, (.int .i64)), (4, (.int .i64))])], []⟩
theorem e_ref14_Replica_rise (R : Value → World → Prop) (x0 : Option Addr) (w : World) : denF P an_ref14_Replica_rise Try.f39 [.pointer x0] w R = S_ref14_Replica_rise R x0 w := by kernel_rfl
theorem c_ref14_Replica_rise {R : Value → World → Prop} {x0 : Option Addr} {w : World} (h : S_ref14_Replica_rise R x0 w) : CallP P F_ref14_Replica_rise [.pointer x0] w R := calls_of_denF (an := an_ref14_Replica_rise) Try.func39 (by rw [e_ref14_Replica_rise]; exact h)


/-- (*penstock/penstockref14.Replica).table -/
def S_ref14_Replica_table (R : Value → World → Prop) (x0 : Option Addr) (x1 : Int) (w : World) : Prop :=
 RunK .addr P (Instr.box T_penstockref09_Table (.agg #[(.slice none 0 0)])) w fun (a0 : Addr) w1 =>
 LoopP (T := Int × Unit) (some (0, ())) w1 fun next2 t3 w4 =>
  nilCk x0 fun (a5 : Addr) =>
   RunQ .sl P (Instr.loadAt T_sl_api_Batch (.pointer (some (a5.add 2)))) w4 fun (s6 : Sl) =>
    ifB (decide (t3.fst < (↑s6.len : Int)))
     (∃ S7 : World → Prop, (S7 w4.drew) ∧
       nilCk x0 fun (a8 : Addr) =>
        HRun S7 .sl P (Instr.loadAt T_sl_api_Batch (.pointer (some (a8.add 2)))) fun (s9 : Sl) =>
         HRun S7 .addr P (Instr.indexAt T_sl_api_Batch s9.v (.int .i64 t3.fst)) fun (a10 : Addr) =>
          HRun S7 (.int .i64) P (Instr.loadAt T_int (.pointer (some (Go.Addr.add a10 0)))) fun (n11 : Int) =>
           nilCk x0 fun (a12 : Addr) =>
            HRun S7 .sl P (Instr.loadAt T_sl_api_Batch (.pointer (some (a12.add 2)))) fun (s13 : Sl) =>
             HRun S7 .addr P (Instr.indexAt T_sl_api_Batch s13.v (.int .i64 t3.fst)) fun (a14 : Addr) =>
              HRun S7 .val P (Instr.loadAt T_api_Batch (.pointer (some a14))) fun (v15 : Value) =>
               CallP P F_ref07_Size [v15] w4.drew fun (v16 : Value) w17 =>
                TyP (.int .i64) v16 fun (n18 : Int) =>
                (S7 w17) ∧
                ifB (decide (IntKind.i64.wrap (n11 + n18) ≤ x1))
                (nilCk x0 fun (a19 : Addr) =>
                RunQ .sl P (Instr.loadAt T_sl_api_Batch (.pointer (some (a19.add 2)))) w17 fun (s20 : Sl) =>
                RunQ .addr P (Instr.indexAt T_sl_api_Batch s20.v (.int .i64 t3.fst)) w17 fun (a21 : Addr) =>
                RunQ .val P (Instr.loadAt T_api_Batch (.pointer (some a21))) w17 fun (v22 : Value) =>
                CallP P F_ref09_Table_Apply [(.pointer (some a0)), v22] w17 fun (v23 : Value) w24 =>
                TupP [] v23 fun (t25 : Unit) =>
                next2 (some ((IntKind.i64.wrap (t3.fst + 1)), ())) w24)
                (next2 (some ((IntKind.i64.wrap (t3.fst + 1)), ())) w17))
     (R (.pointer (some a0)) w4)
def an_ref14_Replica_table : Ann := ⟨[], [(3, [(6, (.int .i64))])], []⟩
theorem e_ref14_Replica_table (R : Value → World → Prop) (x0 : Option Addr) (x1 : Int) (w : World) : denF P an_ref14_Replica_table Try.f40 [.pointer x0, .int .i64 x1] w R = S_ref14_Replica_table R x0 x1 w := by kernel_rfl
theorem c_ref14_Replica_table {R : Value → World → Prop} {x0 : Option Addr} {x1 : Int} {w : World} (h : S_ref14_Replica_table R x0 x1 w) : CallP P F_ref14_Replica_table [.pointer x0, .int .i64 x1] w R := calls_of_denF (an := an_ref14_Replica_table) Try.func40 (by rw [e_ref14_Replica_table]; exact h)


/-- (*penstock/penstockref09.Table).Check -/
def S_ref09_Table_Check (R : Value → World → Prop) (x0 : Option Addr) (x1 : Value) (w : World) : Prop :=
 RunK .addr P (Instr.box T_api_Batch x1) w fun (a0 : Addr) w1 =>
 RunQ .val P (Instr.loadAt T_api_Batch (.pointer (some a0))) w1 fun (v2 : Value) =>
  CallP P F_ref07_DocCheck [v2] w1 fun (v3 : Value) w4 =>
   TyP (.int .i64) v3 fun (n5 : Int) =>
    ifB (n5 != 0)
     (R (.tuple #[(.int .i64 0), (.bool false), (.int .i64 n5)]) w4)
     (RunQ (.int .u64) P (Instr.loadAt T_uint64 (.pointer (some (Go.Addr.add a0 2)))) w4 fun (n6 : Int) =>
      ifB (n6 == 0)
       (R (.tuple #[(.int .i64 0), (.bool false), (.int .i64 0)]) w4)
       (RunQ (.int .u64) P (Instr.loadAt T_uint64 (.pointer (some (Go.Addr.add a0 2)))) w4 fun (n7 : Int) =>
        CallP P F_ref09_Table_Known [(.pointer x0), (.int .u64 n7)] w4 fun (v8 : Value) w9 =>
         TupP [(.int .i64), (.int .i64), (.int .i64), .bool] v8 fun (t10 : Int × Int × Int × Bool × Unit) =>
          JoinP (T := Unit) (fun J11 =>
           ifB t10.snd.snd.snd.fst
            (RunQ (.int .i64) P (Instr.loadAt T_int (.pointer (some (Go.Addr.add a0 3)))) w9 fun (n14 : Int) =>
             ifB (decide (n14 < t10.fst))
              (R (.tuple #[(.int .i64 0), (.bool false), (.int .i64 10)]) w9)
              (J11 (some ()) w9))
            (J11 (some ()) w9))
           fun t12 w13 =>
           RunQ .bool P (Instr.loadAt T_bool (.pointer (some (Go.Addr.add a0 6)))) w13 fun (b15 : Bool) =>
            ifB b15
             (R (.tuple #[(.int .i64 0), (.bool false), (.int .i64 0)]) w13)
             (JoinP (T := Unit) (fun J16 =>
              ifB (!t10.snd.snd.snd.fst)
               (RunQ (.int .i64) P (Instr.loadAt T_int (.pointer (some (Go.Addr.add a0 4)))) w13 fun (n19 : Int) =>
                ifB (decide (n19 > 0))
                (R (.tuple #[(.int .i64 0), (.bool false), (.int .i64 11)]) w13)
                (R (.tuple #[(.int .i64 0), (.bool false), (.int .i64 0)]) w13))
               (RunQ (.int .i64) P (Instr.loadAt T_int (.pointer (some (Go.Addr.add a0 3)))) w13 fun (n20 : Int) =>
                ifB (decide (n20 > t10.fst))
                (RunQ (.int .i64) P (Instr.loadAt T_int (.pointer (some (Go.Addr.add a0 4)))) w13 fun (n21 : Int) =>
                ifB (decide (n21 > 0))
                (R (.tuple #[(.int .i64 0), (.bool false), (.int .i64 11)]) w13)
                (R (.tuple #[(.int .i64 0), (.bool false), (.int .i64 0)]) w13))
                (J16 (some ()) w13)))
              fun t17 w18 =>
              RunQ (.int .u64) P (Instr.loadAt T_uint64 (.pointer (some (Go.Addr.add a0 2)))) w18 fun (n22 : Int) =>
               CallP P F_ref09_Table_last [(.pointer x0), (.int .u64 n22)] w18 fun (v23 : Value) w24 =>
                TyP .sl v23 fun (s25 : Sl) =>
                LoopP (T := Int × Unit) (some ((IntKind.i64.wrap ((↑s25.len : Int) - 1)), ())) w24 fun next26 t27 w28 =>
                ifB (decide (t27.fst ≥ 0))
                (RunQ .addr P (Instr.indexAt T_sl_api_Batch s25.v (.int .i64 t27.fst)) w28.drew fun (a29 : Addr) =>
                RunQ (.int .i64) P (Instr.loadAt T_int (.pointer (some (Go.Addr.add a29 4)))) w28.drew fun (n30 : Int) =>
                RunQ (.int .i64) P (Instr.loadAt T_int (.pointer (some (Go.Addr.add a0 4)))) w28.drew fun (n31 : Int) =>
                ifB (n30 == n31)
                (RunQ .addr P (Instr.indexAt T_sl_api_Batch s25.v (.int .i64 t27.fst)) w28.drew fun (a32 : Addr) =>
                RunQ .sl P (Instr.loadAt T_sl_sl_uint8 (.pointer (some (Go.Addr.add a32 8)))) w28.drew fun (s33 : Sl) =>
                RunQ .sl P (Instr.loadAt T_sl_sl_uint8 (.pointer (some (Go.Addr.add a0 8)))) w28.drew fun (s34 : Sl) =>
                ifB ((↑s33.len : Int) == (↑s34.len : Int))
                (RunQ .addr P (Instr.indexAt T_sl_api_Batch s25.v (.int .i64 t27.fst)) w28.drew fun (a35 : Addr) =>
                RunQ (.int .i64) P (Instr.loadAt T_int (.pointer (some (Go.Addr.add a35 0)))) w28.drew fun (n36 : Int) =>
                R (.tuple #[(.int .i64 n36), (.bool true), (.int .i64 0)]) w28.drew)
                (next26 (some ((IntKind.i64.wrap (t27.fst - 1)), ())) w28.drew))
                (next26 (some ((IntKind.i64.wrap (t27.fst - 1)), ())) w28.drew))
                (RunQ (.int .i64) P (Instr.loadAt T_int (.pointer (some (Go.Addr.add a0 4)))) w28 fun (n37 : Int) =>
                ifB (n37 != t10.snd.fst)
                (R (.tuple #[(.int .i64 0), (.bool false), (.int .i64 11)]) w28)
                (R (.tuple #[(.int .i64 0), (.bool false), (.int .i64 0)]) w28)))))
def an_ref09_Table_Check : Ann := ⟨[(15, []), (9, [])], [(17, [(13, (.int .i64))])], []⟩
theorem e_ref09_Table_Check (R : Value → World → Prop) (x0 : Option Addr) (x1 : Value) (w : World) : denF P an_ref09_Table_Check Try.f41 [.pointer x0, x1] w R = S_ref09_Table_Check R x0 x1 w := by kernel_rfl
theorem c_ref09_Table_Check {R : Value → World → Prop} {x0 : Option Addr} {x1 : Value} {w : World} (h : S_ref09_Table_Check R x0 x1 w) : CallP P F_ref09_Table_Check [.pointer x0, x1] w R := calls_of_denF (an := an_ref09_Table_Check) Try.func41 (by rw [e_ref09_Table_Check]; exact h)


/-- (*penstock/penstockref09.Table).Known -/
def S_ref09_Table_Known (R : Value → World → Prop) (x0 : Option Addr) (x1 : Int) (w : World) : Prop :=
 LoopP (T := Int × Int × Bool × Int × Int × Unit) (some (0, (0, (false, ((-1), (0, ())))))) w fun next0 t1 w2 =>
 nilCk x0 fun (a3 : Addr) =>
  RunQ .sl P (Instr.loadAt T_sl_api_Batch (.pointer (some (a3.add 0)))) w2 fun (s4 : Sl) =>
   ifB (decide (t1.snd.snd.snd.snd.fst < (↑s4.len : Int)))
    (nilCk x0 fun (a5 : Addr) =>
     RunQ .sl P (Instr.loadAt T_sl_api_Batch (.pointer (some (a5.add 0)))) w2 fun (s6 : Sl) =>
      RunQ .addr P (Instr.indexAt T_sl_api_Batch s6.v (.int .i64 t1.snd.snd.snd.snd.fst)) w2 fun (a7 : Addr) =>
       RunQ .val P (Instr.loadAt T_api_Batch (.pointer (some a7))) w2 fun (v8 : Value) =>
        RunK .addr P (Instr.alloc T_api_Batch true (.tuple #[])) w2 fun (a9 : Addr) w10 =>
         StoreP P T_api_Batch (.pointer (some a9)) v8 w10 fun w11 =>
          JoinP (T := Unit) (fun J12 =>
           RunQ (.int .u64) P (Instr.loadAt T_uint64 (.pointer (some (Go.Addr.add a9 2)))) w11 fun (n15 : Int) =>
            ifB (n15 != x1)
             (next0 (some (t1.fst, (t1.snd.fst, (t1.snd.snd.fst, (t1.snd.snd.snd.fst, ((IntKind.i64.wrap (t1.snd.snd.snd.snd.fst + 1)), ())))))) w11)
             (ifB (x1 == 0)
              (next0 (some (t1.fst, (t1.snd.fst, (t1.snd.snd.fst, (t1.snd.snd.snd.fst, ((IntKind.i64.wrap (t1.snd.snd.snd.snd.fst + 1)), ())))))) w11)
              (J12 (some ()) w11)))
           fun t13 w14 =>
           JoinP (T := Int × Int × Unit) (fun J16 =>
            ifB (!t1.snd.snd.fst)
             (RunQ (.int .i64) P (Instr.loadAt T_int (.pointer (some (Go.Addr.add a9 3)))) w14 fun (n19 : Int) =>
              J16 (some (n19, (0, ()))) w14)
             (RunQ (.int .i64) P (Instr.loadAt T_int (.pointer (some (Go.Addr.add a9 3)))) w14 fun (n20 : Int) =>
              ifB (decide (n20 > t1.fst))
               (RunQ (.int .i64) P (Instr.loadAt T_int (.pointer (some (Go.Addr.add a9 3)))) w14 fun (n21 : Int) =>
                J16 (some (n21, (0, ()))) w14)
               (J16 (some (t1.fst, (t1.snd.fst, ()))) w14)))
            fun t17 w18 =>
            RunQ .bool P (Instr.loadAt T_bool (.pointer (some (Go.Addr.add a9 6)))) w18 fun (b22 : Bool) =>
             ifB b22
              (next0 (some (t17.fst, (t17.snd.fst, (true, ((-1), ((IntKind.i64.wrap (t1.snd.snd.snd.snd.fst + 1)), ())))))) w18)
              (∃ S23 : World → Prop, (S23 w18.drew) ∧
                HRun S23 (.int .i64) P (Instr.loadAt T_int (.pointer (some (Go.Addr.add a9 4)))) fun (n24 : Int) =>
                HRun S23 .val P (Instr.loadAt T_api_Batch (.pointer (some a9))) fun (v25 : Value) =>
                CallP P F_ref07_Size [v25] w18.drew fun (v26 : Value) w27 =>
                TyP (.int .i64) v26 fun (n28 : Int) =>
                (S23 w27) ∧
                RunQ .bool P (Instr.loadAt T_bool (.pointer (some (Go.Addr.add a9 5)))) w27 fun (b29 : Bool) =>
                ifB b29
                (ifB (decide (t1.snd.snd.snd.fst < 0))
                (RunQ (.int .i64) P (Instr.loadAt T_int (.pointer (some (Go.Addr.add a9 0)))) w27 fun (n30 : Int) =>
                next0 (some (t17.fst, ((IntKind.i64.wrap (n24 + n28)), (true, (n30, ((IntKind.i64.wrap (t1.snd.snd.snd.snd.fst + 1)), ())))))) w27)
                (next0 (some (t17.fst, ((IntKind.i64.wrap (n24 + n28)), (true, (t1.snd.snd.snd.fst, ((IntKind.i64.wrap (t1.snd.snd.snd.snd.fst + 1)), ())))))) w27))
                (next0 (some (t17.fst, ((IntKind.i64.wrap (n24 + n28)), (true, (t1.snd.snd.snd.fst, ((IntKind.i64.wrap (t1.snd.snd.snd.snd.fst + 1)), ())))))) w27)))
    (ifB (!t1.snd.snd.fst)
     (R (.tuple #[(.int .i64 0), (.int .i64 0), (.int .i64 0), (.bool false)]) w2)
     (R (.tuple #[(.int .i64 t1.fst), (.int .i64 t1.snd.fst), (.int .i64 t1.snd.snd.snd.fst), (.bool true)]) w2))
def an_ref09_Table_Known : Ann := ⟨[(10, [(8, (.int .i64)), (9, (.int .i64))]), (7, [])], [(3, [(8, (.int .i64)), (9, (.int .i64)), (11, .bool), (10, (.int .i64)), (12, (.int .i64))])], []⟩
theorem e_ref09_Table_Known (R : Value → World → Prop) (x0 : Option Addr) (x1 : Int) (w : World) : denF P an_ref09_Table_Known Try.f42 [.pointer x0, .int .u64 x1] w R = S_ref09_Table_Known R x0 x1 w := by kernel_rfl
theorem c_ref09_Table_Known {R : Value → World → Prop} {x0 : Option Addr} {x1 : Int} {w : World} (h : S_ref09_Table_Known R x0 x1 w) : CallP P F_ref09_Table_Known [.pointer x0, .int .u64 x1] w R := calls_of_denF (an := an_ref09_Table_Known) Try.func42 (by rw [e_ref09_Table_Known]; exact h)


/-- penstock/penstockref07.Copy -/
def S_ref07_Copy (R : Value → World → Prop) (x0 : Value) (w : World) : Prop :=
 RunK .addr P (Instr.box T_api_Batch x0) w fun (a0 : Addr) w1 =>
 RunK .addr P (Instr.alloc T_api_Batch true (.tuple #[])) w1 fun (a2 : Addr) w3 =>
  LoopP (T := Sl × Int × Unit) (some (⟨none, 0, 0⟩, (0, ()))) w3 fun next4 t5 w6 =>
   RunQ .sl P (Instr.loadAt T_sl_sl_uint8 (.pointer (some (Go.Addr.add a0 8)))) w6 fun (s7 : Sl) =>
    ifB (decide (t5.snd.fst < (↑s7.len : Int)))
     (RunQ .sl P (Instr.loadAt T_sl_sl_uint8 (.pointer (some (Go.Addr.add a0 8)))) w6 fun (s8 : Sl) =>
      RunQ .addr P (Instr.indexAt T_sl_sl_uint8 s8.v (.int .i64 t5.snd.fst)) w6 fun (a9 : Addr) =>
       RunQ .sl P (Instr.loadAt T_sl_uint8 (.pointer (some a9))) w6 fun (s10 : Sl) =>
        RunK .sl P (Builtin.append_ #[T_sl_uint8, T_sl_uint8] T_sl_uint8 #[(.slice none 0 0), s10.v]) w6 fun (s11 : Sl) w12 =>
         RunK .sl P (Instr.buildSlice T_sl_sl_uint8 1 #[(0, s11.v)]) w12 fun (s13 : Sl) w14 =>
          RunK .sl P (Builtin.append_ #[T_sl_sl_uint8, T_sl_sl_uint8] T_sl_sl_uint8 #[t5.fst.v, s13.v]) w14 fun (s15 : Sl) w16 =>
           next4 (some (s15, ((IntKind.i64.wrap (t5.snd.fst + 1)), ()))) w16)
     (StoreP P T_sl_sl_uint8 (.pointer (some (Go.Addr.add a0 8))) t5.fst.v w6 fun w17 =>
      RunQ .val P (Instr.loadAt T_api_Batch (.pointer (some a0))) w17 fun (v18 : Value) =>
       StoreP P T_api_Batch (.pointer (some a2)) v18 w17 fun w19 =>
        LoadK .val P T_api_Batch (.pointer (some a2)) w19 fun (v20 : Value) =>
         R v20 w19)
def an_ref07_Copy : Ann := ⟨[], [(3, [(3, .sl), (4, (.int .i64))])], []⟩
theorem e_ref07_Copy (R : Value → World → Prop) (x0 : Value) (w : World) : denF P an_ref07_Copy Try.f43 [x0] w R = S_ref07_Copy R x0 w := by kernel_rfl
theorem c_ref07_Copy {R : Value → World → Prop} {x0 : Value} {w : World} (h : S_ref07_Copy R x0 w) : CallP P F_ref07_Copy [x0] w R := calls_of_denF (an := an_ref07_Copy) Try.func43 (by rw [e_ref07_Copy]; exact h)


/-- (*penstock/penstockref09.Table).Unstable -/
def S_ref09_Table_Unstable (R : Value → World → Prop) (x0 : Option Addr) (w : World) : Prop :=
 CallP P F_ref09_Table_Pids [(.pointer x0)] w fun (v0 : Value) w1 =>
 TyP .sl v0 fun (s2 : Sl) =>
  LoopP (T := Int × Bool × Int × Unit) (some (0, (false, (0, ())))) w1 fun next3 t4 w5 =>
   ifB (decide (t4.snd.snd.fst < (↑s2.len : Int)))
    (RunQ .addr P (Instr.indexAt T_sl_uint64 s2.v (.int .i64 t4.snd.snd.fst)) w5 fun (a6 : Addr) =>
     RunQ (.int .u64) P (Instr.loadAt T_uint64 (.pointer (some a6))) w5 fun (n7 : Int) =>
      CallP P F_ref09_Table_Known [(.pointer x0), (.int .u64 n7)] w5 fun (v8 : Value) w9 =>
       TupP [(.int .i64), (.int .i64), (.int .i64), .bool] v8 fun (t10 : Int × Int × Int × Bool × Unit) =>
        ifB (decide (t10.snd.snd.fst ≥ 0))
         (ifB (!t4.snd.fst)
          (next3 (some (t10.snd.snd.fst, (true, ((IntKind.i64.wrap (t4.snd.snd.fst + 1)), ())))) w9)
          (ifB (decide (t10.snd.snd.fst < t4.fst))
           (next3 (some (t10.snd.snd.fst, (true, ((IntKind.i64.wrap (t4.snd.snd.fst + 1)), ())))) w9)
           (next3 (some (t4.fst, (t4.snd.fst, ((IntKind.i64.wrap (t4.snd.snd.fst + 1)), ())))) w9)))
         (next3 (some (t4.fst, (t4.snd.fst, ((IntKind.i64.wrap (t4.snd.snd.fst + 1)), ())))) w9))
    (R (.tuple #[(.int .i64 t4.fst), (.bool t4.snd.fst)]) w5)
def an_ref09_Table_Unstable : Ann := ⟨[], [(4, [(4, (.int .i64)), (5, .bool), (7, (.int .i64))])], []⟩
theorem e_ref09_Table_Unstable (R : Value → World → Prop) (x0 : Option Addr) (w : World) : denF P an_ref09_Table_Unstable Try.f44 [.pointer x0] w R = S_ref09_Table_Unstable R x0 w := by kernel_rfl
theorem c_ref09_Table_Unstable {R : Value → World → Prop} {x0 : Option Addr} {w : World} (h : S_ref09_Table_Unstable R x0 w) : CallP P F_ref09_Table_Unstable [.pointer x0] w R := calls_of_denF (an := an_ref09_Table_Unstable) Try.func44 (by rw [e_ref09_Table_Unstable]; exact h)


/-- (*penstock/penstockref14.Replica).Committed -/
def S_ref14_Replica_Committed (R : Value → World → Prop) (x0 : Option Addr) (x1 : Int) (x2 : Int) (w : World) : Prop :=
 CallP P F_ref14_Replica_Stable [(.pointer x0)] w fun (v0 : Value) w1 =>
 TyP (.int .i64) v0 fun (n2 : Int) =>
  LoopP (T := Int × Sl × Int × Unit) (some (0, (⟨none, 0, 0⟩, (0, ())))) w1 fun next3 t4 w5 =>
   JoinP (T := Unit) (fun J6 =>
    nilCk x0 fun (a9 : Addr) =>
     RunQ .sl P (Instr.loadAt T_sl_api_Batch (.pointer (some (a9.add 2)))) w5 fun (s10 : Sl) =>
      ifB (decide (t4.snd.snd.fst < (↑s10.len : Int)))
       (ifB (decide (t4.fst < x2))
        (J6 (some ()) w5)
        (ifB ((↑t4.snd.fst.len : Int) == 0)
         (R (.tuple #[(.slice none 0 0), (.slice none 0 0), (.int .i64 n2)]) w5)
         (RunQ .addr P (Instr.indexAt T_sl_api_Batch t4.snd.fst.v (.int .i64 (IntKind.i64.wrap ((↑t4.snd.fst.len : Int) - 1)))) w5 fun (a11 : Addr) =>
          RunQ .val P (Instr.loadAt T_api_Batch (.pointer (some a11))) w5 fun (v12 : Value) =>
           RunK .addr P (Instr.alloc T_api_Batch true (.tuple #[])) w5 fun (a13 : Addr) w14 =>
            StoreP P T_api_Batch (.pointer (some a13)) v12 w14 fun w15 =>
             ∃ S16 : World → Prop, (S16 w15.drew) ∧
               HRun S16 .addr P (Instr.indexAt T_sl_api_Batch t4.snd.fst.v (.int .i64 0)) fun (a17 : Addr) =>
                HRun S16 (.int .i64) P (Instr.loadAt T_int (.pointer (some (Go.Addr.add a17 0)))) fun (n18 : Int) =>
                HRun S16 (.int .i64) P (Instr.loadAt T_int (.pointer (some (Go.Addr.add a13 0)))) fun (n19 : Int) =>
                HRun S16 .val P (Instr.loadAt T_api_Batch (.pointer (some a13))) fun (v20 : Value) =>
                CallP P F_ref14_Replica_End [(.pointer x0)] w15.drew fun (v21 : Value) w22 =>
                TyP (.int .i64) v21 fun (n23 : Int) =>
                (S16 w22) ∧
                CallP P F_ref14_Replica_table [(.pointer x0), (.int .i64 n23)] w22 fun (v24 : Value) w25 =>
                TyP .ptr v24 fun (p26 : Option Addr) =>
                (S16 w25) ∧
                CallP P F_ref07_Size [v20] w25 fun (v27 : Value) w28 =>
                TyP (.int .i64) v27 fun (n29 : Int) =>
                (S16 w28) ∧
                CallP P F_ref09_Table_Aborts [(.pointer p26), (.int .i64 n18), (.int .i64 (IntKind.i64.wrap (n19 + n29)))] w28 fun (v30 : Value) w31 =>
                TyP .sl v30 fun (s32 : Sl) =>
                (S16 w31) ∧
                R (.tuple #[t4.snd.fst.v, s32.v, (.int .i64 n2)]) w31)))
       (ifB ((↑t4.snd.fst.len : Int) == 0)
        (R (.tuple #[(.slice none 0 0), (.slice none 0 0), (.int .i64 n2)]) w5)
        (RunQ .addr P (Instr.indexAt T_sl_api_Batch t4.snd.fst.v (.int .i64 (IntKind.i64.wrap ((↑t4.snd.fst.len : Int) - 1)))) w5 fun (a33 : Addr) =>
         RunQ .val P (Instr.loadAt T_api_Batch (.pointer (some a33))) w5 fun (v34 : Value) =>
          RunK .addr P (Instr.alloc T_api_Batch true (.tuple #[])) w5 fun (a35 : Addr) w36 =>
           StoreP P T_api_Batch (.pointer (some a35)) v34 w36 fun w37 =>
            ∃ S38 : World → Prop, (S38 w37.drew) ∧
              HRun S38 .addr P (Instr.indexAt T_sl_api_Batch t4.snd.fst.v (.int .i64 0)) fun (a39 : Addr) =>
               HRun S38 (.int .i64) P (Instr.loadAt T_int (.pointer (some (Go.Addr.add a39 0)))) fun (n40 : Int) =>
                HRun S38 (.int .i64) P (Instr.loadAt T_int (.pointer (some (Go.Addr.add a35 0)))) fun (n41 : Int) =>
                HRun S38 .val P (Instr.loadAt T_api_Batch (.pointer (some a35))) fun (v42 : Value) =>
                CallP P F_ref14_Replica_End [(.pointer x0)] w37.drew fun (v43 : Value) w44 =>
                TyP (.int .i64) v43 fun (n45 : Int) =>
                (S38 w44) ∧
                CallP P F_ref14_Replica_table [(.pointer x0), (.int .i64 n45)] w44 fun (v46 : Value) w47 =>
                TyP .ptr v46 fun (p48 : Option Addr) =>
                (S38 w47) ∧
                CallP P F_ref07_Size [v42] w47 fun (v49 : Value) w50 =>
                TyP (.int .i64) v49 fun (n51 : Int) =>
                (S38 w50) ∧
                CallP P F_ref09_Table_Aborts [(.pointer p48), (.int .i64 n40), (.int .i64 (IntKind.i64.wrap (n41 + n51)))] w50 fun (v52 : Value) w53 =>
                TyP .sl v52 fun (s54 : Sl) =>
                (S38 w53) ∧
                R (.tuple #[t4.snd.fst.v, s54.v, (.int .i64 n2)]) w53)))
    fun t7 w8 =>
    ∃ S55 : World → Prop, (S55 w8.drew) ∧
      nilCk x0 fun (a56 : Addr) =>
       HRun S55 .sl P (Instr.loadAt T_sl_api_Batch (.pointer (some (a56.add 2)))) fun (s57 : Sl) =>
        HRun S55 .addr P (Instr.indexAt T_sl_api_Batch s57.v (.int .i64 t4.snd.snd.fst)) fun (a58 : Addr) =>
         HRun S55 (.int .i64) P (Instr.loadAt T_int (.pointer (some (Go.Addr.add a58 0)))) fun (n59 : Int) =>
          nilCk x0 fun (a60 : Addr) =>
           HRun S55 .sl P (Instr.loadAt T_sl_api_Batch (.pointer (some (a60.add 2)))) fun (s61 : Sl) =>
            HRun S55 .addr P (Instr.indexAt T_sl_api_Batch s61.v (.int .i64 t4.snd.snd.fst)) fun (a62 : Addr) =>
             HRun S55 .val P (Instr.loadAt T_api_Batch (.pointer (some a62))) fun (v63 : Value) =>
              CallP P F_ref07_Size [v63] w8.drew fun (v64 : Value) w65 =>
               TyP (.int .i64) v64 fun (n66 : Int) =>
                (S55 w65) ∧
                ifB (decide (IntKind.i64.wrap (n59 + n66) > x1))
                (ifB (decide (IntKind.i64.wrap (n59 + n66) ≤ n2))
                (nilCk x0 fun (a67 : Addr) =>
                RunQ .sl P (Instr.loadAt T_sl_api_Batch (.pointer (some (a67.add 2)))) w65 fun (s68 : Sl) =>
                RunQ .addr P (Instr.indexAt T_sl_api_Batch s68.v (.int .i64 t4.snd.snd.fst)) w65 fun (a69 : Addr) =>
                RunQ .val P (Instr.loadAt T_api_Batch (.pointer (some a69))) w65 fun (v70 : Value) =>
                RunK .sl P (Instr.buildSlice T_sl_api_Batch 1 #[(0, v70)]) w65 fun (s71 : Sl) w72 =>
                RunK .sl P (Builtin.append_ #[T_sl_api_Batch, T_sl_api_Batch] T_sl_api_Batch #[t4.snd.fst.v, s71.v]) w72 fun (s73 : Sl) w74 =>
                next3 (some ((IntKind.i64.wrap (t4.fst + 1)), (s73, ((IntKind.i64.wrap (t4.snd.snd.fst + 1)), ())))) w74)
                (next3 (some ((IntKind.i64.wrap (t4.fst + 1)), (t4.snd.fst, ((IntKind.i64.wrap (t4.snd.snd.fst + 1)), ())))) w65))
                (next3 (some (t4.fst, (t4.snd.fst, ((IntKind.i64.wrap (t4.snd.snd.fst + 1)), ())))) w65)
def an_ref14_Replica_Committed : Ann := ⟨[(7, [])], [(5, [(11, (.int .i64)), (10, .sl), (12, (.int .i64))])], []⟩
theorem e_ref14_Replica_Committed (R : Value → World → Prop) (x0 : Option Addr) (x1 : Int) (x2 : Int) (w : World) : denF P an_ref14_Replica_Committed Try.f45 [.pointer x0, .int .i64 x1, .int .i64 x2] w R = S_ref14_Replica_Committed R x0 x1 x2 w := by kernel_rfl
theorem c_ref14_Replica_Committed {R : Value → World → Prop} {x0 : Option Addr} {x1 : Int} {x2 : Int} {w : World} (h : S_ref14_Replica_Committed R x0 x1 x2 w) : CallP P F_ref14_Replica_Committed [.pointer x0, .int .i64 x1, .int .i64 x2] w R := calls_of_denF (an := an_ref14_Replica_Committed) Try.func45 (by rw [e_ref14_Replica_Committed]; exact h)


/-- penstock/penstockref07.Size -/
def S_ref07_Size (R : Value → World → Prop) (x0 : Value) (w : World) : Prop :=
 RunK .addr P (Instr.box T_api_Batch x0) w fun (a0 : Addr) w1 =>
 RunQ .bool P (Instr.loadAt T_bool (.pointer (some (Go.Addr.add a0 6)))) w1 fun (b2 : Bool) =>
  ifB b2
   (R (.int .i64 1) w1)
   (RunQ .sl P (Instr.loadAt T_sl_sl_uint8 (.pointer (some (Go.Addr.add a0 8)))) w1 fun (s3 : Sl) =>
    R (.int .i64 ((↑s3.len : Int))) w1)
def an_ref07_Size : Ann := ⟨[], [], []⟩
theorem e_ref07_Size (R : Value → World → Prop) (x0 : Value) (w : World) : denF P an_ref07_Size Try.f54 [x0] w R = S_ref07_Size R x0 w := by kernel_rfl
theorem c_ref07_Size {R : Value → World → Prop} {x0 : Value} {w : World} (h : S_ref07_Size R x0 w) : CallP P F_ref07_Size [x0] w R := calls_of_denF (an := an_ref07_Size) Try.func54 (by rw [e_ref07_Size]; exact h)


/-- (*penstock/penstockref09.Table).Apply -/
def S_ref09_Table_Apply (R : Value → World → Prop) (x0 : Option Addr) (x1 : Value) (w : World) : Prop :=
 RunK .addr P (Instr.box T_api_Batch x1) w fun (a0 : Addr) w1 =>
 RunQ (.int .u64) P (Instr.loadAt T_uint64 (.pointer (some (Go.Addr.add a0 2)))) w1 fun (n2 : Int) =>
  ifB (decide (n2 > 0))
   (∃ S3 : World → Prop, (S3 w1.drew) ∧
     nilCk x0 fun (a4 : Addr) =>
      HRun S3 .val P (Instr.loadAt T_api_Batch (.pointer (some a0))) fun (v5 : Value) =>
       (RunQ .sl P (Instr.loadAt T_sl_api_Batch (.pointer (some (a4.add 0)))) w1.drew fun (s6 : Sl) =>
         (S3 w1.drew) ∧
          RunK .sl P (Instr.buildSlice T_sl_api_Batch 1 #[(0, v5)]) w1.drew fun (s7 : Sl) w8 =>
           (S3 w8) ∧
            RunK .sl P (Builtin.append_ #[T_sl_api_Batch, T_sl_api_Batch] T_sl_api_Batch #[s6.v, s7.v]) w8 fun (s9 : Sl) w10 =>
             (S3 w10) ∧
              nilCk x0 fun (a11 : Addr) =>
               StoreP P T_sl_api_Batch (.pointer (some (a11.add 0))) s9.v w10 fun w12 =>
                (S3 w12) ∧
                R (.tuple #[]) w12) ∧
        (RunK .sl P (Instr.buildSlice T_sl_api_Batch 1 #[(0, v5)]) w1.drew fun (s13 : Sl) w14 =>
          (S3 w14) ∧
           RunQ .sl P (Instr.loadAt T_sl_api_Batch (.pointer (some (a4.add 0)))) w14 fun (s15 : Sl) =>
            (S3 w14) ∧
             RunK .sl P (Builtin.append_ #[T_sl_api_Batch, T_sl_api_Batch] T_sl_api_Batch #[s15.v, s13.v]) w14 fun (s16 : Sl) w17 =>
              (S3 w17) ∧
               nilCk x0 fun (a18 : Addr) =>
                StoreP P T_sl_api_Batch (.pointer (some (a18.add 0))) s16.v w17 fun w19 =>
                (S3 w19) ∧
                R (.tuple #[]) w19) ∧
         True)
   (R (.tuple #[]) w1)
def an_ref09_Table_Apply : Ann := ⟨[], [], [2]⟩
theorem e_ref09_Table_Apply (R : Value → World → Prop) (x0 : Option Addr) (x1 : Value) (w : World) : denF P an_ref09_Table_Apply Try.f55 [.pointer x0, x1] w R = S_ref09_Table_Apply R x0 x1 w := by kernel_rfl
theorem c_ref09_Table_Apply {R : Value → World → Prop} {x0 : Option Addr} {x1 : Value} {w : World} (h : S_ref09_Table_Apply R x0 x1 w) : CallP P F_ref09_Table_Apply [.pointer x0, x1] w R := calls_of_denF (an := an_ref09_Table_Apply) Try.func55 (by rw [e_ref09_Table_Apply]; exact h)


/-- penstock/penstockref07.DocCheck -/
def S_ref07_DocCheck (R : Value → World → Prop) (x0 : Value) (w : World) : Prop :=
 RunK .addr P (Instr.box T_api_Batch x0) w fun (a0 : Addr) w1 =>
 RunQ (.int .i64) P (Instr.loadAt T_int (.pointer (some (Go.Addr.add a0 0)))) w1 fun (n2 : Int) =>
  RunQ (.int .i64) P (Instr.loadAt T_int (.pointer (some (Go.Addr.add a0 1)))) w1 fun (n3 : Int) =>
   RunQ (.int .i64) P (Instr.loadAt T_int (.pointer (some (Go.Addr.add a0 3)))) w1 fun (n4 : Int) =>
    RunQ (.int .i64) P (Instr.loadAt T_int (.pointer (some (Go.Addr.add a0 4)))) w1 fun (n5 : Int) =>
     RunK .sl P (Instr.buildSlice T_sl_int 4 #[(0, (.int .i64 n2)), (1, (.int .i64 n3)), (2, (.int .i64 n4)), (3, (.int .i64 n5))]) w1 fun (s6 : Sl) w7 =>
      LoopP (T := Int × Unit) (some (0, ())) w7 fun next8 t9 w10 =>
       ifB (decide (t9.fst < (↑s6.len : Int)))
        (RunQ .addr P (Instr.indexAt T_sl_int s6.v (.int .i64 t9.fst)) w10 fun (a11 : Addr) =>
         RunQ (.int .i64) P (Instr.loadAt T_int (.pointer (some a11))) w10 fun (n12 : Int) =>
          ifB (decide (n12 < 0))
           (R (.int .i64 1) w10)
           (next8 (some ((IntKind.i64.wrap (t9.fst + 1)), ())) w10))
        (JoinP (T := Unit) (fun J13 =>
         RunQ (.int .i64) P (Instr.loadAt T_int (.pointer (some (Go.Addr.add a0 3)))) w10 fun (n16 : Int) =>
          ifB (decide (n16 > 1000))
           (R (.int .i64 1) w10)
           (RunQ (.int .u64) P (Instr.loadAt T_uint64 (.pointer (some (Go.Addr.add a0 2)))) w10 fun (n17 : Int) =>
            ifB (decide (n17 > 1000))
             (R (.int .i64 1) w10)
             (J13 (some ()) w10)))
         fun t14 w15 =>
         JoinP (T := Unit) (fun J18 =>
          RunQ .bool P (Instr.loadAt T_bool (.pointer (some (Go.Addr.add a0 6)))) w15 fun (b21 : Bool) =>
           ifB b21
            (RunQ .sl P (Instr.loadAt T_sl_sl_uint8 (.pointer (some (Go.Addr.add a0 8)))) w15 fun (s22 : Sl) =>
             ifB (decide ((↑s22.len : Int) > 0))
              (R (.int .i64 7) w15)
              (RunQ .bool P (Instr.loadAt T_bool (.pointer (some (Go.Addr.add a0 5)))) w15 fun (b23 : Bool) =>
               ifB (!b23)
                (R (.int .i64 7) w15)
                (RunQ (.int .u64) P (Instr.loadAt T_uint64 (.pointer (some (Go.Addr.add a0 2)))) w15 fun (n24 : Int) =>
                ifB (n24 == 0)
                (R (.int .i64 7) w15)
                (RunQ (.int .i64) P (Instr.loadAt T_int (.pointer (some (Go.Addr.add a0 4)))) w15 fun (n25 : Int) =>
                ifB (n25 != 0)
                (R (.int .i64 7) w15)
                (J18 (some ()) w15)))))
            (RunQ .sl P (Instr.loadAt T_sl_sl_uint8 (.pointer (some (Go.Addr.add a0 8)))) w15 fun (s26 : Sl) =>
             ifB ((↑s26.len : Int) == 0)
              (R (.int .i64 7) w15)
              (RunQ .bool P (Instr.loadAt T_bool (.pointer (some (Go.Addr.add a0 7)))) w15 fun (b27 : Bool) =>
               ifB b27
                (R (.int .i64 7) w15)
                (J18 (some ()) w15))))
          fun t19 w20 =>
          JoinP (T := Unit) (fun J28 =>
           RunQ (.int .u64) P (Instr.loadAt T_uint64 (.pointer (some (Go.Addr.add a0 2)))) w20 fun (n31 : Int) =>
            ifB (n31 == 0)
             (RunQ .bool P (Instr.loadAt T_bool (.pointer (some (Go.Addr.add a0 5)))) w20 fun (b32 : Bool) =>
              ifB b32
               (R (.int .i64 7) w20)
               (RunQ (.int .i64) P (Instr.loadAt T_int (.pointer (some (Go.Addr.add a0 3)))) w20 fun (n33 : Int) =>
                ifB (decide (n33 > 0))
                (R (.int .i64 7) w20)
                (RunQ (.int .i64) P (Instr.loadAt T_int (.pointer (some (Go.Addr.add a0 4)))) w20 fun (n34 : Int) =>
                ifB (decide (n34 > 0))
                (R (.int .i64 7) w20)
                (J28 (some ()) w20))))
             (J28 (some ()) w20))
           fun t29 w30 =>
           RunQ .sl P (Instr.loadAt T_sl_sl_uint8 (.pointer (some (Go.Addr.add a0 8)))) w30 fun (s35 : Sl) =>
            ifB (decide ((↑s35.len : Int) > 16))
             (R (.int .i64 2) w30)
             (LoopP (T := Int × Unit) (some (0, ())) w30 fun next36 t37 w38 =>
              RunQ .sl P (Instr.loadAt T_sl_sl_uint8 (.pointer (some (Go.Addr.add a0 8)))) w38 fun (s39 : Sl) =>
               ifB (decide (t37.fst < (↑s39.len : Int)))
                (RunQ .sl P (Instr.loadAt T_sl_sl_uint8 (.pointer (some (Go.Addr.add a0 8)))) w38 fun (s40 : Sl) =>
                RunQ .addr P (Instr.indexAt T_sl_sl_uint8 s40.v (.int .i64 t37.fst)) w38 fun (a41 : Addr) =>
                RunQ .sl P (Instr.loadAt T_sl_uint8 (.pointer (some a41))) w38 fun (s42 : Sl) =>
                ifB (decide ((↑s42.len : Int) > 64))
                (R (.int .i64 2) w38)
                (next36 (some ((IntKind.i64.wrap (t37.fst + 1)), ())) w38))
                (R (.int .i64 0) w38)))
def an_ref07_DocCheck : Ann := ⟨[(16, []), (14, []), (9, [])], [(2, [(16, (.int .i64))]), (19, [(5, (.int .i64))])], []⟩
theorem e_ref07_DocCheck (R : Value → World → Prop) (x0 : Value) (w : World) : denF P an_ref07_DocCheck Try.f56 [x0] w R = S_ref07_DocCheck R x0 w := by kernel_rfl
theorem c_ref07_DocCheck {R : Value → World → Prop} {x0 : Value} {w : World} (h : S_ref07_DocCheck R x0 w) : CallP P F_ref07_DocCheck [x0] w R := calls_of_denF (an := an_ref07_DocCheck) Try.func56 (by rw [e_ref07_DocCheck]; exact h)


/-- (*penstock/penstockref09.Table).last -/
def S_ref09_Table_last (R : Value → World → Prop) (x0 : Option Addr) (x1 : Int) (w : World) : Prop :=
 CallP P F_ref09_Table_Known [(.pointer x0), (.int .u64 x1)] w fun (v0 : Value) w1 =>
 TupP [(.int .i64), (.int .i64), (.int .i64), .bool] v0 fun (t2 : Int × Int × Int × Bool × Unit) =>
  nilCk x0 fun (a3 : Addr) =>
   RunQ .sl P (Instr.loadAt T_sl_api_Batch (.pointer (some (a3.add 0)))) w1 fun (s4 : Sl) =>
    LoopP (T := Sl × Int × Unit) (some (⟨none, 0, 0⟩, ((IntKind.i64.wrap ((↑s4.len : Int) - 1)), ()))) w1 fun next5 t6 w7 =>
     JoinP (T := Unit) (fun J8 =>
      ifB (decide (t6.snd.fst ≥ 0))
       (ifB (decide ((↑t6.fst.len : Int) < 5))
        (J8 (some ()) w7)
        (R t6.fst.v w7))
       (R t6.fst.v w7))
      fun t9 w10 =>
      nilCk x0 fun (a11 : Addr) =>
       RunQ .sl P (Instr.loadAt T_sl_api_Batch (.pointer (some (a11.add 0)))) w10 fun (s12 : Sl) =>
        RunQ .addr P (Instr.indexAt T_sl_api_Batch s12.v (.int .i64 t6.snd.fst)) w10 fun (a13 : Addr) =>
         RunQ .val P (Instr.loadAt T_api_Batch (.pointer (some a13))) w10 fun (v14 : Value) =>
          RunK .addr P (Instr.alloc T_api_Batch true (.tuple #[])) w10 fun (a15 : Addr) w16 =>
           StoreP P T_api_Batch (.pointer (some a15)) v14 w16 fun w17 =>
            RunQ (.int .u64) P (Instr.loadAt T_uint64 (.pointer (some (Go.Addr.add a15 2)))) w17 fun (n18 : Int) =>
             ifB (n18 != x1)
              (next5 (some (t6.fst, ((IntKind.i64.wrap (t6.snd.fst - 1)), ()))) w17)
              (JoinP (T := Unit) (fun J19 =>
               RunQ (.int .i64) P (Instr.loadAt T_int (.pointer (some (Go.Addr.add a15 3)))) w17 fun (n22 : Int) =>
                ifB (decide (n22 < t2.fst))
                (CallP P F_ref09_Table_rose [(.pointer x0), (.int .i64 t6.snd.fst), (.int .i64 t2.fst)] w17 fun (v23 : Value) w24 =>
                TyP .bool v23 fun (b25 : Bool) =>
                ifB b25
                (R t6.fst.v w24)
                (J19 (some ()) w24))
                (J19 (some ()) w17))
               fun t20 w21 =>
               RunQ .bool P (Instr.loadAt T_bool (.pointer (some (Go.Addr.add a15 6)))) w21 fun (b26 : Bool) =>
                ifB (!b26)
                (RunQ .val P (Instr.loadAt T_api_Batch (.pointer (some a15))) w21 fun (v27 : Value) =>
                RunK .sl P (Instr.buildSlice T_sl_api_Batch 1 #[(0, v27)]) w21 fun (s28 : Sl) w29 =>
                RunK .sl P (Builtin.append_ #[T_sl_api_Batch, T_sl_api_Batch] T_sl_api_Batch #[t6.fst.v, s28.v]) w29 fun (s30 : Sl) w31 =>
                next5 (some (s30, ((IntKind.i64.wrap (t6.snd.fst - 1)), ()))) w31)
                (next5 (some (t6.fst, ((IntKind.i64.wrap (t6.snd.fst - 1)), ()))) w21))
def an_ref09_Table_last : Ann := ⟨[(9, []), (6, [])], [(4, [(9, .sl), (10, (.int .i64))])], []⟩
theorem e_ref09_Table_last (R : Value → World → Prop) (x0 : Option Addr) (x1 : Int) (w : World) : denF P an_ref09_Table_last Try.f57 [.pointer x0, .int .u64 x1] w R = S_ref09_Table_last R x0 x1 w := by kernel_rfl
theorem c_ref09_Table_last {R : Value → World → Prop} {x0 : Option Addr} {x1 : Int} {w : World} (h : S_ref09_Table_last R x0 x1 w) : CallP P F_ref09_Table_last [.pointer x0, .int .u64 x1] w R := calls_of_denF (an := an_ref09_Table_last) Try.func57 (by rw [e_ref09_Table_last]; exact h)


/-- (*penstock/penstockref09.Table).Pids -/
def S_ref09_Table_Pids (R : Value → World → Prop) (x0 : Option Addr) (w : World) : Prop :=
 LoopP (T := Sl × Int × Unit) (some (⟨none, 0, 0⟩, (0, ()))) w fun next0 t1 w2 =>
 nilCk x0 fun (a3 : Addr) =>
  RunQ .sl P (Instr.loadAt T_sl_api_Batch (.pointer (some (a3.add 0)))) w2 fun (s4 : Sl) =>
   ifB (decide (t1.snd.fst < (↑s4.len : Int)))
    (LoopP (T := Int × Unit) (some (0, ())) w2 fun next5 t6 w7 =>
     ifB (decide (t6.fst < (↑t1.fst.len : Int)))
      (RunQ .addr P (Instr.indexAt T_sl_uint64 t1.fst.v (.int .i64 t6.fst)) w7.drew fun (a8 : Addr) =>
       RunQ (.int .u64) P (Instr.loadAt T_uint64 (.pointer (some a8))) w7.drew fun (n9 : Int) =>
        nilCk x0 fun (a10 : Addr) =>
         RunQ .sl P (Instr.loadAt T_sl_api_Batch (.pointer (some (a10.add 0)))) w7.drew fun (s11 : Sl) =>
          RunQ .addr P (Instr.indexAt T_sl_api_Batch s11.v (.int .i64 t1.snd.fst)) w7.drew fun (a12 : Addr) =>
           RunQ (.int .u64) P (Instr.loadAt T_uint64 (.pointer (some (Go.Addr.add a12 2)))) w7.drew fun (n13 : Int) =>
            ifB (decide (n9 < n13))
             (next5 (some ((IntKind.i64.wrap (t6.fst + 1)), ())) w7.drew)
             (JoinP (T := Unit) (fun J14 =>
              ifB (decide (t6.fst < (↑t1.fst.len : Int)))
               (RunQ .addr P (Instr.indexAt T_sl_uint64 t1.fst.v (.int .i64 t6.fst)) w7.drew.drew fun (a17 : Addr) =>
                RunQ (.int .u64) P (Instr.loadAt T_uint64 (.pointer (some a17))) w7.drew.drew fun (n18 : Int) =>
                nilCk x0 fun (a19 : Addr) =>
                RunQ .sl P (Instr.loadAt T_sl_api_Batch (.pointer (some (a19.add 0)))) w7.drew.drew fun (s20 : Sl) =>
                RunQ .addr P (Instr.indexAt T_sl_api_Batch s20.v (.int .i64 t1.snd.fst)) w7.drew.drew fun (a21 : Addr) =>
                RunQ (.int .u64) P (Instr.loadAt T_uint64 (.pointer (some (Go.Addr.add a21 2)))) w7.drew.drew fun (n22 : Int) =>
                ifB (n18 == n22)
                (next0 (some (t1.fst, ((IntKind.i64.wrap (t1.snd.fst + 1)), ()))) w7.drew.drew)
                (J14 (some ()) w7.drew.drew))
               (J14 (some ()) w7.drew.drew))
              fun t15 w16 =>
              RunQ .sl P (Instr.sliceAt T_sl_uint64 t1.fst.v none (some (.int .i64 t6.fst)) none) w16 fun (s23 : Sl) =>
               RunK .sl P (Builtin.append_ #[T_sl_uint64, T_sl_uint64] T_sl_uint64 #[(.slice none 0 0), s23.v]) w16 fun (s24 : Sl) w25 =>
                nilCk x0 fun (a26 : Addr) =>
                RunQ .sl P (Instr.loadAt T_sl_api_Batch (.pointer (some (a26.add 0)))) w25 fun (s27 : Sl) =>
                RunQ .addr P (Instr.indexAt T_sl_api_Batch s27.v (.int .i64 t1.snd.fst)) w25 fun (a28 : Addr) =>
                RunQ (.int .u64) P (Instr.loadAt T_uint64 (.pointer (some (Go.Addr.add a28 2)))) w25 fun (n29 : Int) =>
                RunK .sl P (Instr.buildSlice T_sl_uint64 1 #[(0, (.int .u64 n29))]) w25 fun (s30 : Sl) w31 =>
                RunK .sl P (Builtin.append_ #[T_sl_uint64, T_sl_uint64] T_sl_uint64 #[s24.v, s30.v]) w31 fun (s32 : Sl) w33 =>
                RunQ .sl P (Instr.sliceAt T_sl_uint64 t1.fst.v (some (.int .i64 t6.fst)) none none) w33 fun (s34 : Sl) =>
                RunK .sl P (Builtin.append_ #[T_sl_uint64, T_sl_uint64] T_sl_uint64 #[s32.v, s34.v]) w33 fun (s35 : Sl) w36 =>
                next0 (some (s35, ((IntKind.i64.wrap (t1.snd.fst + 1)), ()))) w36))
      (JoinP (T := Unit) (fun J37 =>
       ifB (decide (t6.fst < (↑t1.fst.len : Int)))
        (RunQ .addr P (Instr.indexAt T_sl_uint64 t1.fst.v (.int .i64 t6.fst)) w7.drew.drew fun (a40 : Addr) =>
         RunQ (.int .u64) P (Instr.loadAt T_uint64 (.pointer (some a40))) w7.drew.drew fun (n41 : Int) =>
          nilCk x0 fun (a42 : Addr) =>
           RunQ .sl P (Instr.loadAt T_sl_api_Batch (.pointer (some (a42.add 0)))) w7.drew.drew fun (s43 : Sl) =>
            RunQ .addr P (Instr.indexAt T_sl_api_Batch s43.v (.int .i64 t1.snd.fst)) w7.drew.drew fun (a44 : Addr) =>
             RunQ (.int .u64) P (Instr.loadAt T_uint64 (.pointer (some (Go.Addr.add a44 2)))) w7.drew.drew fun (n45 : Int) =>
              ifB (n41 == n45)
               (next0 (some (t1.fst, ((IntKind.i64.wrap (t1.snd.fst + 1)), ()))) w7.drew.drew)
               (J37 (some ()) w7.drew.drew))
        (J37 (some ()) w7.drew.drew))
       fun t38 w39 =>
       RunQ .sl P (Instr.sliceAt T_sl_uint64 t1.fst.v none (some (.int .i64 t6.fst)) none) w39 fun (s46 : Sl) =>
        RunK .sl P (Builtin.append_ #[T_sl_uint64, T_sl_uint64] T_sl_uint64 #[(.slice none 0 0), s46.v]) w39 fun (s47 : Sl) w48 =>
         nilCk x0 fun (a49 : Addr) =>
          RunQ .sl P (Instr.loadAt T_sl_api_Batch (.pointer (some (a49.add 0)))) w48 fun (s50 : Sl) =>
           RunQ .addr P (Instr.indexAt T_sl_api_Batch s50.v (.int .i64 t1.snd.fst)) w48 fun (a51 : Addr) =>
            RunQ (.int .u64) P (Instr.loadAt T_uint64 (.pointer (some (Go.Addr.add a51 2)))) w48 fun (n52 : Int) =>
             RunK .sl P (Instr.buildSlice T_sl_uint64 1 #[(0, (.int .u64 n52))]) w48 fun (s53 : Sl) w54 =>
              RunK .sl P (Builtin.append_ #[T_sl_uint64, T_sl_uint64] T_sl_uint64 #[s47.v, s53.v]) w54 fun (s55 : Sl) w56 =>
               RunQ .sl P (Instr.sliceAt T_sl_uint64 t1.fst.v (some (.int .i64 t6.fst)) none none) w56 fun (s57 : Sl) =>
                RunK .sl P (Builtin.append_ #[T_sl_uint64, T_sl_uint64] T_sl_uint64 #[s55.v, s57.v]) w56 fun (s58 : Sl) w59 =>
                next0 (some (s58, ((IntKind.i64.wrap (t1.snd.fst + 1)), ()))) w59))
    (R t1.fst.v w2)
def an_ref09_Table_Pids : Ann := ⟨[(9, [])], [(6, [(5, (.int .i64))]), (3, [(3, .sl), (4, (.int .i64))])], []⟩
theorem e_ref09_Table_Pids (R : Value → World → Prop) (x0 : Option Addr) (w : World) : denF P an_ref09_Table_Pids Try.f58 [.pointer x0] w R = S_ref09_Table_Pids R x0 w := by kernel_rfl
theorem c_ref09_Table_Pids {R : Value → World → Prop} {x0 : Option Addr} {w : World} (h : S_ref09_Table_Pids R x0 w) : CallP P F_ref09_Table_Pids [.pointer x0] w R := calls_of_denF (an := an_ref09_Table_Pids) Try.func58 (by rw [e_ref09_Table_Pids]; exact h)


/-- (*penstock/penstockref09.Table).Aborts -/
def S_ref09_Table_Aborts (R : Value → World → Prop) (x0 : Option Addr) (x1 : Int) (x2 : Int) (w : World) : Prop :=
 LoopP (T := Sl × Int × Unit) (some (⟨none, 0, 0⟩, (0, ()))) w fun next0 t1 w2 =>
 nilCk x0 fun (a3 : Addr) =>
  RunQ .sl P (Instr.loadAt T_sl_api_Batch (.pointer (some (a3.add 0)))) w2 fun (s4 : Sl) =>
   ifB (decide (t1.snd.fst < (↑s4.len : Int)))
    (nilCk x0 fun (a5 : Addr) =>
     RunQ .sl P (Instr.loadAt T_sl_api_Batch (.pointer (some (a5.add 0)))) w2 fun (s6 : Sl) =>
      RunQ .addr P (Instr.indexAt T_sl_api_Batch s6.v (.int .i64 t1.snd.fst)) w2 fun (a7 : Addr) =>
       RunQ .val P (Instr.loadAt T_api_Batch (.pointer (some a7))) w2 fun (v8 : Value) =>
        RunK .addr P (Instr.alloc T_api_Batch true (.tuple #[])) w2 fun (a9 : Addr) w10 =>
         StoreP P T_api_Batch (.pointer (some a9)) v8 w10 fun w11 =>
          JoinP (T := Unit) (fun J12 =>
           RunQ .bool P (Instr.loadAt T_bool (.pointer (some (Go.Addr.add a9 6)))) w11 fun (b15 : Bool) =>
            ifB (!b15)
             (next0 (some (t1.fst, ((IntKind.i64.wrap (t1.snd.fst + 1)), ()))) w11)
             (RunQ .bool P (Instr.loadAt T_bool (.pointer (some (Go.Addr.add a9 7)))) w11 fun (b16 : Bool) =>
              ifB b16
               (next0 (some (t1.fst, ((IntKind.i64.wrap (t1.snd.fst + 1)), ()))) w11)
               (J12 (some ()) w11)))
           fun t13 w14 =>
           nilCk x0 fun (a17 : Addr) =>
            RunQ .sl P (Instr.loadAt T_sl_api_Batch (.pointer (some (a17.add 0)))) w14 fun (s18 : Sl) =>
             RunQ .sl P (Instr.sliceAt T_sl_api_Batch s18.v none (some (.int .i64 t1.snd.fst)) none) w14 fun (s19 : Sl) =>
              RunK .addr P (Instr.box T_penstockref09_Table (.agg #[s19.v])) w14 fun (a20 : Addr) w21 =>
               RunQ (.int .u64) P (Instr.loadAt T_uint64 (.pointer (some (Go.Addr.add a9 2)))) w21 fun (n22 : Int) =>
                CallP P F_ref09_Table_Known [(.pointer (some a20)), (.int .u64 n22)] w21 fun (v23 : Value) w24 =>
                TupP [(.int .i64), (.int .i64), (.int .i64), .bool] v23 fun (t25 : Int × Int × Int × Bool × Unit) =>
                ifB t25.snd.snd.snd.fst
                (ifB (decide (t25.snd.snd.fst ≥ 0))
                (RunQ (.int .i64) P (Instr.loadAt T_int (.pointer (some (Go.Addr.add a9 0)))) w24 fun (n26 : Int) =>
                ifB (decide (n26 ≥ x1))
                (ifB (decide (t25.snd.snd.fst < x2))
                (RunQ (.int .u64) P (Instr.loadAt T_uint64 (.pointer (some (Go.Addr.add a9 2)))) w24 fun (n27 : Int) =>
                RunQ (.int .i64) P (Instr.loadAt T_int (.pointer (some (Go.Addr.add a9 0)))) w24 fun (n28 : Int) =>
                RunK .sl P (Instr.buildSlice T_sl_api_Abort 1 #[(0, (.agg #[(.int .u64 n27), (.int .i64 t25.snd.snd.fst), (.int .i64 n28)]))]) w24 fun (s29 : Sl) w30 =>
                RunK .sl P (Builtin.append_ #[T_sl_api_Abort, T_sl_api_Abort] T_sl_api_Abort #[t1.fst.v, s29.v]) w30 fun (s31 : Sl) w32 =>
                next0 (some (s31, ((IntKind.i64.wrap (t1.snd.fst + 1)), ()))) w32)
                (next0 (some (t1.fst, ((IntKind.i64.wrap (t1.snd.fst + 1)), ()))) w24))
                (next0 (some (t1.fst, ((IntKind.i64.wrap (t1.snd.fst + 1)), ()))) w24))
                (next0 (some (t1.fst, ((IntKind.i64.wrap (t1.snd.fst + 1)), ()))) w24))
                (next0 (some (t1.fst, ((IntKind.i64.wrap (t1.snd.fst + 1)), ()))) w24))
    (R t1.fst.v w2)
def an_ref09_Table_Aborts : Ann := ⟨[(7, [])], [(3, [(7, .sl), (8, (.int .i64))])], []⟩
theorem e_ref09_Table_Aborts (R : Value → World → Prop) (x0 : Option Addr) (x1 : Int) (x2 : Int) (w : World) : denF P an_ref09_Table_Aborts Try.f59 [.pointer x0, .int .i64 x1, .int .i64 x2] w R = S_ref09_Table_Aborts R x0 x1 x2 w := by kernel_rfl
theorem c_ref09_Table_Aborts {R : Value → World → Prop} {x0 : Option Addr} {x1 : Int} {x2 : Int} {w : World} (h : S_ref09_Table_Aborts R x0 x1 x2 w) : CallP P F_ref09_Table_Aborts [.pointer x0, .int .i64 x1, .int .i64 x2] w R := calls_of_denF (an := an_ref09_Table_Aborts) Try.func59 (by rw [e_ref09_Table_Aborts]; exact h)


/-- (*penstock/penstockref09.Table).rose -/
def S_ref09_Table_rose (R : Value → World → Prop) (x0 : Option Addr) (x1 : Int) (x2 : Int) (w : World) : Prop :=
 LoopP (T := Int × Unit) (some (0, ())) w fun next0 t1 w2 =>
 ifB (decide (t1.fst ≤ x1))
  (nilCk x0 fun (a3 : Addr) =>
   RunQ .sl P (Instr.loadAt T_sl_api_Batch (.pointer (some (a3.add 0)))) w2.drew fun (s4 : Sl) =>
    RunQ .addr P (Instr.indexAt T_sl_api_Batch s4.v (.int .i64 t1.fst)) w2.drew fun (a5 : Addr) =>
     RunQ (.int .u64) P (Instr.loadAt T_uint64 (.pointer (some (Go.Addr.add a5 2)))) w2.drew fun (n6 : Int) =>
      nilCk x0 fun (a7 : Addr) =>
       RunQ .sl P (Instr.loadAt T_sl_api_Batch (.pointer (some (a7.add 0)))) w2.drew fun (s8 : Sl) =>
        RunQ .addr P (Instr.indexAt T_sl_api_Batch s8.v (.int .i64 x1)) w2.drew fun (a9 : Addr) =>
         RunQ (.int .u64) P (Instr.loadAt T_uint64 (.pointer (some (Go.Addr.add a9 2)))) w2.drew fun (n10 : Int) =>
          ifB (n6 == n10)
           (nilCk x0 fun (a11 : Addr) =>
            RunQ .sl P (Instr.loadAt T_sl_api_Batch (.pointer (some (a11.add 0)))) w2.drew fun (s12 : Sl) =>
             RunQ .addr P (Instr.indexAt T_sl_api_Batch s12.v (.int .i64 t1.fst)) w2.drew fun (a13 : Addr) =>
              RunQ (.int .i64) P (Instr.loadAt T_int (.pointer (some (Go.Addr.add a13 3)))) w2.drew fun (n14 : Int) =>
               ifB (n14 == x2)
                (R (.bool false) w2.drew)
                (next0 (some ((IntKind.i64.wrap (t1.fst + 1)), ())) w2.drew))
           (next0 (some ((IntKind.i64.wrap (t1.fst + 1)), ())) w2.drew))
  (R (.bool true) w2)
def an_ref09_Table_rose : Ann := ⟨[], [(2, [(7, (.int .i64))])], []⟩
theorem e_ref09_Table_rose (R : Value → World → Prop) (x0 : Option Addr) (x1 : Int) (x2 : Int) (w : World) : denF P an_ref09_Table_rose Try.f69 [.pointer x0, .int .i64 x1, .int .i64 x2] w R = S_ref09_Table_rose R x0 x1 x2 w := by kernel_rfl
theorem c_ref09_Table_rose {R : Value → World → Prop} {x0 : Option Addr} {x1 : Int} {x2 : Int} {w : World} (h : S_ref09_Table_rose R x0 x1 x2 w) : CallP P F_ref09_Table_rose [.pointer x0, .int .i64 x1, .int .i64 x2] w R := calls_of_denF (an := an_ref09_Table_rose) Try.func69 (by rw [e_ref09_Table_rose]; exact h)


/-- penstock/penstocklaw19.ClientReads -/
def S_law19_ClientReads (R : Value → World → Prop) (x0 : Sl) (x1 : Sl) (w : World) : Prop :=
 JoinP (T := Unit) (fun J0 =>
 CallP P F_law19_awake [] w fun (v3 : Value) w4 =>
  TyP .bool v3 fun (b5 : Bool) =>
   ifB (!b5)
    (CallP P F_law19_awake [] w4 fun (v6 : Value) w7 =>
     TyP .bool v6 fun (b8 : Bool) =>
      R (.bool b8) w7)
    (ifB (decide ((↑x0.len : Int) > 200))
     (CallP P F_law19_awake [] w4 fun (v9 : Value) w10 =>
      TyP .bool v9 fun (b11 : Bool) =>
       R (.bool b11) w10)
     (J0 (some ()) w4)))
 fun t1 w2 =>
 CallP P F_ref14_New [(.int .i64 0), (.int .i64 0)] w2 fun (v12 : Value) w13 =>
  TyP .ptr v12 fun (p14 : Option Addr) =>
   RunK .sl P (Instr.buildSlice T_sl_int 1 #[(0, (.int .i64 0))]) w13 fun (s15 : Sl) w16 =>
    CallP P F_ref14_Replica_Lead [(.pointer p14), (.int .i64 1), s15.v] w16 fun (v17 : Value) w18 =>
     TyP (.int .i64) v17 fun (n19 : Int) =>
      LoopP (T := Int × Unit) (some (0, ())) w18 fun next20 t21 w22 =>
       ifB (decide (t21.fst < (↑x0.len : Int)))
        (RunQ .addr P (Instr.indexAt T_sl_api_Batch x0.v (.int .i64 t21.fst)) w22 fun (a23 : Addr) =>
         RunQ .val P (Instr.loadAt T_api_Batch (.pointer (some a23))) w22 fun (v24 : Value) =>
          RunK .addr P (Instr.alloc T_api_Batch true (.tuple #[])) w22 fun (a25 : Addr) w26 =>
           StoreP P T_api_Batch (.pointer (some a25)) v24 w26 fun w27 =>
            RunQ .val P (Instr.loadAt T_api_Batch (.pointer (some a25))) w27 fun (v28 : Value) =>
             CallP P F_ref14_Replica_Produce [(.pointer p14), v28] w27 fun (v29 : Value) w30 =>
              TupP [(.int .i64), (.int .i64)] v29 fun (t31 : Int × Int × Unit) =>
               next20 (some ((IntKind.i64.wrap (t21.fst + 1)), ())) w30)
        (∃ S32 : World → Prop, (S32 w22.drew) ∧
          nilCk p14 fun (a33 : Addr) =>
           HRun S32 .sl P (Instr.loadAt T_sl_api_Batch (.pointer (some (a33.add 2)))) fun (s34 : Sl) =>
            CallP P F_ref14_Replica_Stable [(.pointer p14)] w22.drew fun (v35 : Value) w36 =>
             TyP (.int .i64) v35 fun (n37 : Int) =>
              (S32 w36) ∧
               CallP P F_law19_committed [s34.v, (.int .i64 n37)] w36 fun (v38 : Value) w39 =>
                TyP .sl v38 fun (s40 : Sl) =>
                (S32 w39) ∧
                LoopP (T := Sl × Int × Int × Unit) (some (⟨none, 0, 0⟩, (0, (0, ())))) w39 fun next41 t42 w43 =>
                ifB (decide (t42.snd.snd.fst < (↑x1.len : Int)))
                (RunQ .addr P (Instr.indexAt T_sl_uint8 x1.v (.int .i64 t42.snd.snd.fst)) w43 fun (a44 : Addr) =>
                RunQ (.int .u8) P (Instr.loadAt T_uint8 (.pointer (some a44))) w43 fun (n45 : Int) =>
                ifB (decide (t42.snd.snd.fst < 60))
                (RunK .sl P (Instr.buildSlice T_sl_api_Op 1 #[(0, (.agg #[(.int .i64 4), (.int .i64 0), (.int .i64 0), (.int .i64 (IntKind.i64.wrap (Int.tmod n45 17))), (.string (ByteArray.mk #[]))]))]) w43 fun (s46 : Sl) w47 =>
                RunK .sl P (Builtin.append_ #[T_sl_api_Op, T_sl_api_Op] T_sl_api_Op #[t42.fst.v, s46.v]) w47 fun (s48 : Sl) w49 =>
                next41 (some (s48, ((if (↑s40.len : Int) < IntKind.i64.wrap (t42.snd.fst + IntKind.i64.wrap (Int.tmod n45 17)) then (↑s40.len : Int) else IntKind.i64.wrap (t42.snd.fst + IntKind.i64.wrap (Int.tmod n45 17))), ((IntKind.i64.wrap (t42.snd.snd.fst + 1)), ())))) w49)
                (next41 (some (t42.fst, (t42.snd.fst, ((IntKind.i64.wrap (t42.snd.snd.fst + 1)), ())))) w43))
                (CallP P F_law19_one [t42.fst.v] w43 fun (v50 : Value) w51 =>
                TyP .val v50 fun (v52 : Value) =>
                CallP P F_law19_begin [v52, (.int .u8 0)] w51 fun (v53 : Value) w54 =>
                TyP .ptr v53 fun (p55 : Option Addr) =>
                ifB (Option.isNone p55)
                (R (.bool false) w54)
                (nilCk p55 fun (a56 : Addr) =>
                RunQ .ptr P (Instr.loadAt T_p_client_Client (.pointer (some (a56.add 5)))) w54 fun (p57 : Option Addr) =>
                CallP P F_client_Client_Tick [(.pointer p57)] w54 fun (v58 : Value) w59 =>
                TyP .sl v58 fun (s60 : Sl) =>
                LoopP (T := Sl × Int × Int × Unit) (some (s60, (0, (0, ())))) w59 fun next61 t62 w63 =>
                JoinP (T := Unit) (fun J64 =>
                ifB (decide (t62.snd.snd.fst < 4000))
                (nilCk p55 fun (a67 : Addr) =>
                RunQ .bool P (Instr.loadAt T_bool (.pointer (some (a67.add 69)))) w63 fun (b68 : Bool) =>
                ifB (!b68)
                (J64 (some ()) w63)
                (nilCk p55 fun (a69 : Addr) =>
                RunQ .ptr P (Instr.loadAt T_p_client_Client (.pointer (some (a69.add 5)))) w63 fun (p70 : Option Addr) =>
                CallP P F_client_Client_Trace [(.pointer p70)] w63 fun (v71 : Value) w72 =>
                TyP .sl v71 fun (s73 : Sl) =>
                LoopP (T := Int × Int × Unit) (some (0, (0, ()))) w72 fun next74 t75 w76 =>
                ifB (decide (t75.snd.fst < (↑s73.len : Int)))
                (RunQ .addr P (Instr.indexAt T_sl_api_Seen s73.v (.int .i64 t75.snd.fst)) w76 fun (a77 : Addr) =>
                RunQ .val P (Instr.loadAt T_api_Seen (.pointer (some a77))) w76 fun (v78 : Value) =>
                RunK .addr P (Instr.alloc T_api_Seen true (.tuple #[])) w76 fun (a79 : Addr) w80 =>
                StoreP P T_api_Seen (.pointer (some a79)) v78 w80 fun w81 =>
                RunQ (.int .i64) P (Instr.loadAt T_int (.pointer (some (Go.Addr.add a79 0)))) w81 fun (n82 : Int) =>
                ifB (n82 != 5)
                (next74 (some (t75.fst, ((IntKind.i64.wrap (t75.snd.fst + 1)), ()))) w81)
                (ifB (decide (t75.fst ≥ (↑s40.len : Int)))
                (R (.bool false) w81.drew)
                (RunQ (.int .i64) P (Instr.loadAt T_int (.pointer (some (Go.Addr.add a79 4)))) w81.drew fun (n83 : Int) =>
                RunQ .addr P (Instr.indexAt T_sl_penstocklaw19_record s40.v (.int .i64 t75.fst)) w81.drew fun (a84 : Addr) =>
                RunQ (.int .i64) P (Instr.loadAt T_int (.pointer (some (Go.Addr.add a84 0)))) w81.drew fun (n85 : Int) =>
                ifB (n83 != n85)
                (R (.bool false) w81.drew)
                (RunQ .str P (Instr.loadAt T_string (.pointer (some (Go.Addr.add a79 5)))) w81.drew fun (t86 : ByteArray) =>
                RunQ .addr P (Instr.indexAt T_sl_penstocklaw19_record s40.v (.int .i64 t75.fst)) w81.drew fun (a87 : Addr) =>
                RunQ .str P (Instr.loadAt T_string (.pointer (some (Go.Addr.add a87 1)))) w81.drew fun (t88 : ByteArray) =>
                ifB (!ByteArray.toList t86 == ByteArray.toList t88)
                (R (.bool false) w81.drew)
                (next74 (some ((IntKind.i64.wrap (t75.fst + 1)), ((IntKind.i64.wrap (t75.snd.fst + 1)), ()))) w81.drew)))))
                (nilCk p55 fun (a89 : Addr) =>
                RunQ .bool P (Instr.loadAt T_bool (.pointer (some (a89.add 69)))) w76 fun (b90 : Bool) =>
                ifB b90
                (R (.bool (t75.fst == t42.snd.fst)) w76)
                (R (.bool false) w76))))
                (nilCk p55 fun (a91 : Addr) =>
                RunQ .ptr P (Instr.loadAt T_p_client_Client (.pointer (some (a91.add 5)))) w63 fun (p92 : Option Addr) =>
                CallP P F_client_Client_Trace [(.pointer p92)] w63 fun (v93 : Value) w94 =>
                TyP .sl v93 fun (s95 : Sl) =>
                LoopP (T := Int × Int × Unit) (some (0, (0, ()))) w94 fun next96 t97 w98 =>
                ifB (decide (t97.snd.fst < (↑s95.len : Int)))
                (RunQ .addr P (Instr.indexAt T_sl_api_Seen s95.v (.int .i64 t97.snd.fst)) w98 fun (a99 : Addr) =>
                RunQ .val P (Instr.loadAt T_api_Seen (.pointer (some a99))) w98 fun (v100 : Value) =>
                RunK .addr P (Instr.alloc T_api_Seen true (.tuple #[])) w98 fun (a101 : Addr) w102 =>
                StoreP P T_api_Seen (.pointer (some a101)) v100 w102 fun w103 =>
                RunQ (.int .i64) P (Instr.loadAt T_int (.pointer (some (Go.Addr.add a101 0)))) w103 fun (n104 : Int) =>
                ifB (n104 != 5)
                (next96 (some (t97.fst, ((IntKind.i64.wrap (t97.snd.fst + 1)), ()))) w103)
                (ifB (decide (t97.fst ≥ (↑s40.len : Int)))
                (R (.bool false) w103.drew)
                (RunQ (.int .i64) P (Instr.loadAt T_int (.pointer (some (Go.Addr.add a101 4)))) w103.drew fun (n105 : Int) =>
                RunQ .addr P (Instr.indexAt T_sl_penstocklaw19_record s40.v (.int .i64 t97.fst)) w103.drew fun (a106 : Addr) =>
                RunQ (.int .i64) P (Instr.loadAt T_int (.pointer (some (Go.Addr.add a106 0)))) w103.drew fun (n107 : Int) =>
                ifB (n105 != n107)
                (R (.bool false) w103.drew)
                (RunQ .str P (Instr.loadAt T_string (.pointer (some (Go.Addr.add a101 5)))) w103.drew fun (t108 : ByteArray) =>
                RunQ .addr P (Instr.indexAt T_sl_penstocklaw19_record s40.v (.int .i64 t97.fst)) w103.drew fun (a109 : Addr) =>
                RunQ .str P (Instr.loadAt T_string (.pointer (some (Go.Addr.add a109 1)))) w103.drew fun (t110 : ByteArray) =>
                ifB (!ByteArray.toList t108 == ByteArray.toList t110)
                (R (.bool false) w103.drew)
                (next96 (some ((IntKind.i64.wrap (t97.fst + 1)), ((IntKind.i64.wrap (t97.snd.fst + 1)), ()))) w103.drew)))))
                (nilCk p55 fun (a111 : Addr) =>
                RunQ .bool P (Instr.loadAt T_bool (.pointer (some (a111.add 69)))) w98 fun (b112 : Bool) =>
                ifB b112
                (R (.bool (t97.fst == t42.snd.fst)) w98)
                (R (.bool false) w98))))
                fun t65 w66 =>
                JoinP (T := Unit) (fun J113 =>
                CallP P F_law19_hold_sends [(.pointer p55), t62.fst.v] w66 fun (v116 : Value) w117 =>
                TyP .bool v116 fun (b118 : Bool) =>
                ifB (!b118)
                (R (.bool false) w117)
                (CallP P F_law19_hold_looks [(.pointer p55)] w117 fun (v119 : Value) w120 =>
                TyP .bool v119 fun (b121 : Bool) =>
                ifB (!b121)
                (R (.bool false) w120)
                (J113 (some ()) w120)))
                fun t114 w115 =>
                ifB ((↑t62.fst.len : Int) == 0)
                (nilCk p55 fun (a122 : Addr) =>
                RunQ .ptr P (Instr.loadAt T_p_client_Client (.pointer (some (a122.add 5)))) w115 fun (p123 : Option Addr) =>
                CallP P F_client_Client_Tick [(.pointer p123)] w115 fun (v124 : Value) w125 =>
                TyP .sl v124 fun (s126 : Sl) =>
                next61 (some (s126, (t62.snd.fst, ((IntKind.i64.wrap (t62.snd.snd.fst + 1)), ())))) w125)
                (RunQ .addr P (Instr.indexAt T_sl_api_Msg t62.fst.v (.int .i64 0)) w115 fun (a127 : Addr) =>
                RunQ .val P (Instr.loadAt T_api_Msg (.pointer (some a127))) w115 fun (v128 : Value) =>
                CallP P F_law19_serve [(.pointer p14), v128, (.int .i64 t62.snd.fst)] w115 fun (v129 : Value) w130 =>
                TupP [.val, (.int .i64), .bool] v129 fun (t131 : Value × Int × Bool × Unit) =>
                RunK .addr P (Instr.alloc T_api_Msg true (.tuple #[])) w130 fun (a132 : Addr) w133 =>
                StoreP P T_api_Msg (.pointer (some a132)) t131.1 w133 fun w134 =>
                ifB (!t131.snd.snd.fst)
                (R (.bool false) w134)
                (∃ S135 : World → Prop, (S135 w134.drew) ∧
                nilCk p55 fun (a136 : Addr) =>
                HRun S135 .ptr P (Instr.loadAt T_p_client_Client (.pointer (some (a136.add 5)))) fun (p137 : Option Addr) =>
                HRun S135 .val P (Instr.loadAt T_api_Msg (.pointer (some a132))) fun (v138 : Value) =>
                CallP P F_client_Client_Handle [(.pointer p137), v138] w134.drew fun (v139 : Value) w140 =>
                TyP .sl v139 fun (s141 : Sl) =>
                (S135 w140) ∧
                next61 (some (s141, (t131.snd.fst, ((IntKind.i64.wrap (t62.snd.snd.fst + 1)), ())))) w140)))))
def an_law19_ClientReads : Ann := ⟨[(30, []), (28, []), (3, [])], [(6, [(37, (.int .i64))]), (14, [(8, .sl), (9, (.int .i64)), (54, (.int .i64))]), (26, [(15, .sl), (14, (.int .i64)), (16, (.int .i64))]), (39, [(20, (.int .i64)), (140, (.int .i64))])], []⟩
theorem e_law19_ClientReads (R : Value → World → Prop) (x0 : Sl) (x1 : Sl) (w : World) : denF P an_law19_ClientReads Try.f5 [x0.v, x1.v] w R = S_law19_ClientReads R x0 x1 w := by kernel_rfl
theorem c_law19_ClientReads {R : Value → World → Prop} {x0 : Sl} {x1 : Sl} {w : World} (h : S_law19_ClientReads R x0 x1 w) : CallP P F_law19_ClientReads [x0.v, x1.v] w R := calls_of_denF (an := an_law19_ClientReads) Try.func5 (by rw [e_law19_ClientReads]; exact h)


/-- penstock/penstocklaw19.serve -/
def S_law19_serve (R : Value → World → Prop) (x0 : Option Addr) (x1 : Value) (x2 : Int) (w : World) : Prop :=
 RunK .addr P (Instr.box T_api_Msg x1) w fun (a0 : Addr) w1 =>
 RunK .addr P (Instr.alloc T_api_Msg true (.tuple #[])) w1 fun (a2 : Addr) w3 =>
  RunQ (.int .i64) P (Instr.loadAt T_int (.pointer (some (Go.Addr.add a0 3)))) w3 fun (n4 : Int) =>
   RunQ (.int .i64) P (Instr.loadAt T_int (.pointer (some (Go.Addr.add a0 48)))) w3 fun (n5 : Int) =>
    RunK .addr P (Instr.alloc T_api_Msg true (.tuple #[])) w3 fun (a6 : Addr) w7 =>
     StoreP P T_api_Msg (.pointer (some a6)) (.agg #[(.int .i64 15), (.int .i64 0), (.int .i64 0), (.int .i64 n4), (.int .i64 0), (.int .i64 0), (.int .i64 0), (.int .i64 0), (.int .i64 0), (.int .i64 0), (.int .i64 0), (.int .i64 0), (.bool false), (.slice none 0 0), (.slice none 0 0), (.int .i64 0), (.int .i64 0), (.int .i64 0), (.int .i64 0), (.int .i64 0), (.int .i64 0), (.int .i64 0), (.int .i64 0), (.int .i64 0), (.bool false), (.int .i64 0), (.int .i64 0), (.int .i64 0), (.int .i64 0), (.slice none 0 0), (.int .i64 0), (.int .i64 0), (.int .i64 0), (.int .i64 0), (.int .i64 0), (.slice none 0 0), (.int .i64 0), (.int .i64 0), (.int .u64 0), (.int .i64 0), (.int .i64 0), (.bool false), (.bool false), (.bool false), (.slice none 0 0), (.int .i64 0), (.int .i64 0), (.int .i64 0), (.int .i64 n5), (.int .u64 0), (.int .i64 0), (.bool false), (.int .i64 0), (.int .i64 0), (.int .i64 0), (.slice none 0 0), (.slice none 0 0), (.slice none 0 0), (.int .i64 0)]) w7 fun w8 =>
      JoinP (T := Unit) (fun J9 =>
       RunQ (.int .i64) P (Instr.loadAt T_int (.pointer (some (Go.Addr.add a0 0)))) w8 fun (n12 : Int) =>
        ifB (n12 == 11)
         (StoreP P T_int (.pointer (some (Go.Addr.add a6 53))) (.int .i64 1) w8 fun w13 =>
          RunK .sl P (Instr.buildSlice T_sl_int 1 #[(0, (.int .i64 0))]) w13 fun (s14 : Sl) w15 =>
           StoreP P T_sl_int (.pointer (some (Go.Addr.add a6 55))) s14.v w15 fun w16 =>
            J9 (some ()) w16)
         (ifB (n12 == 14)
          (StoreP P T_int (.pointer (some (Go.Addr.add a6 46))) (.int .i64 x2) w8 fun w17 =>
           J9 (some ()) w17)
          (ifB (n12 == 6)
           (RunQ (.int .i64) P (Instr.loadAt T_int (.pointer (some (Go.Addr.add a0 46)))) w8 fun (n18 : Int) =>
            CallP P F_ref14_Replica_Committed [(.pointer x0), (.int .i64 n18), (.int .i64 8)] w8 fun (v19 : Value) w20 =>
             TupP [.sl, .sl, (.int .i64)] v19 fun (t21 : Sl × Sl × Int × Unit) =>
              StoreP P T_sl_api_Batch (.pointer (some (Go.Addr.add a6 56))) t21.fst.v w20 fun w22 =>
               StoreP P T_sl_api_Abort (.pointer (some (Go.Addr.add a6 57))) t21.snd.fst.v w22 fun w23 =>
                StoreP P T_int (.pointer (some (Go.Addr.add a6 58))) (.int .i64 t21.snd.snd.fst) w23 fun w24 =>
                J9 (some ()) w24)
           (ifB (n12 == 12)
            (∃ S25 : World → Prop, (S25 w8.drew) ∧
              HRun S25 .val P (Instr.loadAt T_api_Msg (.pointer (some a6))) fun (v26 : Value) =>
               HRun S25 (.int .i64) P (Instr.loadAt T_int (.pointer (some (Go.Addr.add a0 46)))) fun (n27 : Int) =>
                HRun S25 (.int .i64) P (Instr.loadAt T_int (.pointer (some (Go.Addr.add a0 53)))) fun (n28 : Int) =>
                ifB (n28 == 1)
                (HRun S25 (.int .i64) P (Instr.loadAt T_int (.pointer (some (Go.Addr.add a0 46)))) fun (n29 : Int) =>
                StoreP P T_api_Msg (.pointer (some a2)) v26 w8.drew fun w30 =>
                (S25 w30) ∧
                LoadK .val P T_api_Msg (.pointer (some a2)) w30 fun (v31 : Value) =>
                R (.tuple #[v31, (.int .i64 (if n27 > x2 then n27 else x2)), (.bool (decide (n29 ≥ x2)))]) w30)
                (StoreP P T_api_Msg (.pointer (some a2)) v26 w8.drew fun w32 =>
                (S25 w32) ∧
                LoadK .val P T_api_Msg (.pointer (some a2)) w32 fun (v33 : Value) =>
                R (.tuple #[v33, (.int .i64 (if n27 > x2 then n27 else x2)), (.bool false)]) w32))
            (RunQ .val P (Instr.loadAt T_api_Msg (.pointer (some a6))) w8 fun (v34 : Value) =>
             StoreP P T_api_Msg (.pointer (some a2)) v34 w8 fun w35 =>
              LoadK .val P T_api_Msg (.pointer (some a2)) w35 fun (v36 : Value) =>
               R (.tuple #[v36, (.int .i64 x2), (.bool false)]) w35)))))
       fun t10 w11 =>
       RunQ .val P (Instr.loadAt T_api_Msg (.pointer (some a6))) w11 fun (v37 : Value) =>
        StoreP P T_api_Msg (.pointer (some a2)) v37 w11 fun w38 =>
         LoadK .val P T_api_Msg (.pointer (some a2)) w38 fun (v39 : Value) =>
          R (.tuple #[v39, (.int .i64 x2), (.bool true)]) w38
def an_law19_serve : Ann := ⟨[(16, [])], [], []⟩
theorem e_law19_serve (R : Value → World → Prop) (x0 : Option Addr) (x1 : Value) (x2 : Int) (w : World) : denF P an_law19_serve Try.f25 [.pointer x0, x1, .int .i64 x2] w R = S_law19_serve R x0 x1 x2 w := by kernel_rfl
theorem c_law19_serve {R : Value → World → Prop} {x0 : Option Addr} {x1 : Value} {x2 : Int} {w : World} (h : S_law19_serve R x0 x1 x2 w) : CallP P F_law19_serve [.pointer x0, x1, .int .i64 x2] w R := calls_of_denF (an := an_law19_serve) Try.func25 (by rw [e_law19_serve]; exact h)

end Go.Proofs.Ytajhdjjmhfbhgaa
