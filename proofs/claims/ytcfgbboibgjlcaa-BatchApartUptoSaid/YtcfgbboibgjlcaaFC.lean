/- The functions of the program as predicates over worlds, written by a program of mine (PkPrint); each is held against the code by the kernel. -/
import Derived.Test.YtcfgbboibgjlcaaN
namespace Go.Proofs.Ytcfgbboibgjlcaa
open Go Go.Pk
/-- penstock/penstockref07.DocDecode -/
def S_ref07_DocDecode (R : Value → World → Prop) (x0 : Sl) (w : World) : Prop :=
 RunK .addr P (Instr.alloc T_api_Batch true (.tuple #[])) w fun (a0 : Addr) w1 =>
 RunK .addr P (Instr.box T_penstockref03_Reader (.agg #[x0.v, (.int .i64 0), (.int .i64 0)])) w1 fun (a2 : Addr) w3 =>
  RunK .addr P (Instr.alloc T_api_Batch true (.tuple #[])) w3 fun (a4 : Addr) w5 =>
   CallP P F_ref03_Reader_Int [(.pointer (some a2))] w5 fun (v6 : Value) w7 =>
    TyP (.int .i64) v6 fun (n8 : Int) =>
     StoreP P T_int (.pointer (some (Go.Addr.add a4 0))) (.int .i64 n8) w7 fun w9 =>
      CallP P F_ref03_Reader_Int [(.pointer (some a2))] w9 fun (v10 : Value) w11 =>
       TyP (.int .i64) v10 fun (n12 : Int) =>
        StoreP P T_int (.pointer (some (Go.Addr.add a4 1))) (.int .i64 n12) w11 fun w13 =>
         CallP P F_ref03_Reader_Uint [(.pointer (some a2))] w13 fun (v14 : Value) w15 =>
          TyP (.int .u64) v14 fun (n16 : Int) =>
           StoreP P T_uint64 (.pointer (some (Go.Addr.add a4 2))) (.int .u64 n16) w15 fun w17 =>
            CallP P F_ref03_Reader_Int [(.pointer (some a2))] w17 fun (v18 : Value) w19 =>
             TyP (.int .i64) v18 fun (n20 : Int) =>
              StoreP P T_int (.pointer (some (Go.Addr.add a4 3))) (.int .i64 n20) w19 fun w21 =>
               CallP P F_ref03_Reader_Int [(.pointer (some a2))] w21 fun (v22 : Value) w23 =>
                TyP (.int .i64) v22 fun (n24 : Int) =>
                StoreP P T_int (.pointer (some (Go.Addr.add a4 4))) (.int .i64 n24) w23 fun w25 =>
                CallP P F_ref03_Reader_Flag [(.pointer (some a2))] w25 fun (v26 : Value) w27 =>
                TyP .bool v26 fun (b28 : Bool) =>
                StoreP P T_bool (.pointer (some (Go.Addr.add a4 5))) (.bool b28) w27 fun w29 =>
                CallP P F_ref03_Reader_Flag [(.pointer (some a2))] w29 fun (v30 : Value) w31 =>
                TyP .bool v30 fun (b32 : Bool) =>
                StoreP P T_bool (.pointer (some (Go.Addr.add a4 6))) (.bool b32) w31 fun w33 =>
                CallP P F_ref03_Reader_Flag [(.pointer (some a2))] w33 fun (v34 : Value) w35 =>
                TyP .bool v34 fun (b36 : Bool) =>
                StoreP P T_bool (.pointer (some (Go.Addr.add a4 7))) (.bool b36) w35 fun w37 =>
                CallP P F_ref03_Reader_Uint [(.pointer (some a2))] w37 fun (v38 : Value) w39 =>
                TyP (.int .u64) v38 fun (n40 : Int) =>
                JoinP (T := Unit) (fun J41 =>
                RunQ (.int .i64) P (Instr.loadAt T_int (.pointer (some (Go.Addr.add a2 2)))) w39 fun (n44 : Int) =>
                ifB (n44 == 0)
                (ifB (decide (n40 > 16))
                (StoreP P T_api_Batch (.pointer (some a0)) (.agg #[(.int .i64 0), (.int .i64 0), (.int .u64 0), (.int .i64 0), (.int .i64 0), (.bool false), (.bool false), (.bool false), (.slice none 0 0)]) w39 fun w45 =>
                LoadK .val P T_api_Batch (.pointer (some a0)) w45 fun (v46 : Value) =>
                R (.tuple #[v46, (.int .i64 2)]) w45)
                (J41 (some ()) w39))
                (J41 (some ()) w39))
                fun t42 w43 =>
                LoopP (T := Int × Unit) (some (0, ())) w43 fun next47 t48 w49 =>
                JoinP (T := Unit) (fun J50 =>
                ifB (decide (t48.fst < IntKind.i64.wrap n40))
                (RunQ (.int .i64) P (Instr.loadAt T_int (.pointer (some (Go.Addr.add a2 2)))) w49 fun (n53 : Int) =>
                ifB (n53 == 0)
                (J50 (some ()) w49)
                (CallP P F_ref03_Reader_End [(.pointer (some a2))] w49 fun (v54 : Value) w55 =>
                TyP (.int .i64) v54 fun (n56 : Int) =>
                ifB (n56 != 0)
                (StoreP P T_api_Batch (.pointer (some a0)) (.agg #[(.int .i64 0), (.int .i64 0), (.int .u64 0), (.int .i64 0), (.int .i64 0), (.bool false), (.bool false), (.bool false), (.slice none 0 0)]) w55 fun w57 =>
                LoadK .val P T_api_Batch (.pointer (some a0)) w57 fun (v58 : Value) =>
                R (.tuple #[v58, (.int .i64 n56)]) w57)
                (RunQ .val P (Instr.loadAt T_api_Batch (.pointer (some a4))) w55 fun (v59 : Value) =>
                CallP P F_ref07_DocCheck [v59] w55 fun (v60 : Value) w61 =>
                TyP (.int .i64) v60 fun (n62 : Int) =>
                ifB (n62 != 0)
                (StoreP P T_api_Batch (.pointer (some a0)) (.agg #[(.int .i64 0), (.int .i64 0), (.int .u64 0), (.int .i64 0), (.int .i64 0), (.bool false), (.bool false), (.bool false), (.slice none 0 0)]) w61 fun w63 =>
                LoadK .val P T_api_Batch (.pointer (some a0)) w63 fun (v64 : Value) =>
                R (.tuple #[v64, (.int .i64 n62)]) w63)
                (RunQ .val P (Instr.loadAt T_api_Batch (.pointer (some a4))) w61 fun (v65 : Value) =>
                StoreP P T_api_Batch (.pointer (some a0)) v65 w61 fun w66 =>
                LoadK .val P T_api_Batch (.pointer (some a0)) w66 fun (v67 : Value) =>
                R (.tuple #[v67, (.int .i64 0)]) w66))))
                (CallP P F_ref03_Reader_End [(.pointer (some a2))] w49 fun (v68 : Value) w69 =>
                TyP (.int .i64) v68 fun (n70 : Int) =>
                ifB (n70 != 0)
                (StoreP P T_api_Batch (.pointer (some a0)) (.agg #[(.int .i64 0), (.int .i64 0), (.int .u64 0), (.int .i64 0), (.int .i64 0), (.bool false), (.bool false), (.bool false), (.slice none 0 0)]) w69 fun w71 =>
                LoadK .val P T_api_Batch (.pointer (some a0)) w71 fun (v72 : Value) =>
                R (.tuple #[v72, (.int .i64 n70)]) w71)
                (RunQ .val P (Instr.loadAt T_api_Batch (.pointer (some a4))) w69 fun (v73 : Value) =>
                CallP P F_ref07_DocCheck [v73] w69 fun (v74 : Value) w75 =>
                TyP (.int .i64) v74 fun (n76 : Int) =>
                ifB (n76 != 0)
                (StoreP P T_api_Batch (.pointer (some a0)) (.agg #[(.int .i64 0), (.int .i64 0), (.int .u64 0), (.int .i64 0), (.int .i64 0), (.bool false), (.bool false), (.bool false), (.slice none 0 0)]) w75 fun w77 =>
                LoadK .val P T_api_Batch (.pointer (some a0)) w77 fun (v78 : Value) =>
                R (.tuple #[v78, (.int .i64 n76)]) w77)
                (RunQ .val P (Instr.loadAt T_api_Batch (.pointer (some a4))) w75 fun (v79 : Value) =>
                StoreP P T_api_Batch (.pointer (some a0)) v79 w75 fun w80 =>
                LoadK .val P T_api_Batch (.pointer (some a0)) w80 fun (v81 : Value) =>
                R (.tuple #[v81, (.int .i64 0)]) w80))))
                fun t51 w52 =>
                (RunQ .sl P (Instr.loadAt T_sl_sl_uint8 (.pointer (some (Go.Addr.add a4 8)))) w52.drew fun (s82 : Sl) =>
                (True) ∧
                CallP P F_ref03_Reader_Bytes [(.pointer (some a2))] w52.drew fun (v83 : Value) w84 =>
                TyP .sl v83 fun (s85 : Sl) =>
                (True) ∧
                RunK .sl P (Instr.buildSlice T_sl_sl_uint8 1 #[(0, s85.v)]) w84 fun (s86 : Sl) w87 =>
                (True) ∧
                RunK .sl P (Builtin.append_ #[T_sl_sl_uint8, T_sl_sl_uint8] T_sl_sl_uint8 #[s82.v, s86.v]) w87 fun (s88 : Sl) w89 =>
                (True) ∧
                StoreP P T_sl_sl_uint8 (.pointer (some (Go.Addr.add a4 8))) s88.v w89 fun w90 =>
                (True) ∧
                next47 (some ((IntKind.i64.wrap (t48.fst + 1)), ())) w90) ∧
                (CallP P F_ref03_Reader_Bytes [(.pointer (some a2))] w52.drew fun (v91 : Value) w92 =>
                TyP .sl v91 fun (s93 : Sl) =>
                (True) ∧
                (RunQ .sl P (Instr.loadAt T_sl_sl_uint8 (.pointer (some (Go.Addr.add a4 8)))) w92 fun (s94 : Sl) =>
                (True) ∧
                RunK .sl P (Instr.buildSlice T_sl_sl_uint8 1 #[(0, s93.v)]) w92 fun (s95 : Sl) w96 =>
                (True) ∧
                RunK .sl P (Builtin.append_ #[T_sl_sl_uint8, T_sl_sl_uint8] T_sl_sl_uint8 #[s94.v, s95.v]) w96 fun (s97 : Sl) w98 =>
                (True) ∧
                StoreP P T_sl_sl_uint8 (.pointer (some (Go.Addr.add a4 8))) s97.v w98 fun w99 =>
                (True) ∧
                next47 (some ((IntKind.i64.wrap (t48.fst + 1)), ())) w99) ∧
                (RunK .sl P (Instr.buildSlice T_sl_sl_uint8 1 #[(0, s93.v)]) w92 fun (s100 : Sl) w101 =>
                (True) ∧
                RunQ .sl P (Instr.loadAt T_sl_sl_uint8 (.pointer (some (Go.Addr.add a4 8)))) w101 fun (s102 : Sl) =>
                (True) ∧
                RunK .sl P (Builtin.append_ #[T_sl_sl_uint8, T_sl_sl_uint8] T_sl_sl_uint8 #[s102.v, s100.v]) w101 fun (s103 : Sl) w104 =>
                (True) ∧
                StoreP P T_sl_sl_uint8 (.pointer (some (Go.Addr.add a4 8))) s103.v w104 fun w105 =>
                (True) ∧
                next47 (some ((IntKind.i64.wrap (t48.fst + 1)), ())) w105) ∧
                True) ∧
                True
def an_ref07_DocDecode : Ann := ⟨[(17, []), (14, [])], [(15, [(7, (.int .i64))])], [17]⟩
theorem e_ref07_DocDecode (R : Value → World → Prop) (x0 : Sl) (w : World) : denF P an_ref07_DocDecode Try.f37 [x0.v] w R = S_ref07_DocDecode R x0 w := by kernel_rfl
theorem c_ref07_DocDecode {R : Value → World → Prop} {x0 : Sl} {w : World} (h : S_ref07_DocDecode R x0 w) : CallP P F_ref07_DocDecode [x0.v] w R := calls_of_denF (an := an_ref07_DocDecode) Try.func37 (by rw [e_ref07_DocDecode]; exact h)


/-- penstock/penstocklaw07.awake -/
def S_law07_awake (R : Value → World → Prop) (w : World) : Prop :=
 RunK .sl P (Instr.buildSlice T_sl_uint8 1 #[(0, (.int .u8 97))]) w fun (s0 : Sl) w1 =>
 RunK .sl P (convert T_sl_uint8 T_sl_uint8 s0.v) w1 fun (s2 : Sl) w3 =>
  RunK .sl P (Instr.buildSlice T_sl_sl_uint8 1 #[(0, s2.v)]) w3 fun (s4 : Sl) w5 =>
   CallP P F_batch_Encode [(.agg #[(.int .i64 0), (.int .i64 0), (.int .u64 0), (.int .i64 0), (.int .i64 0), (.bool false), (.bool false), (.bool false), s4.v])] w5 fun (v6 : Value) w7 =>
    TupP [.sl, (.int .i64)] v6 fun (t8 : Sl × Int × Unit) =>
     CallP P F_batch_Decode [t8.fst.v] w7 fun (v9 : Value) w10 =>
      TupP [.val, (.int .i64)] v9 fun (t11 : Value × Int × Unit) =>
       RunK .addr P (Instr.alloc T_api_Batch true (.tuple #[])) w10 fun (a12 : Addr) w13 =>
        StoreP P T_api_Batch (.pointer (some a12)) t11.1 w13 fun w14 =>
         ifB (t8.snd.fst == 0)
          (ifB (t11.snd.fst == 0)
           (RunK .str P (convert T_sl_uint8 T_string t8.fst.v) w14 fun (t15 : ByteArray) w16 =>
            ifB (ByteArray.toList t15 == (ByteArray.mk #[0, 0, 0, 0, 0, 0, 0, 0, 1, 1, 97]).toList)
             (RunQ .sl P (Instr.loadAt T_sl_sl_uint8 (.pointer (some (Go.Addr.add a12 8)))) w16 fun (s17 : Sl) =>
              ifB ((↑s17.len : Int) == 1)
               (RunQ .sl P (Instr.loadAt T_sl_sl_uint8 (.pointer (some (Go.Addr.add a12 8)))) w16 fun (s18 : Sl) =>
                RunQ .addr P (Instr.indexAt T_sl_sl_uint8 s18.v (.int .i64 0)) w16 fun (a19 : Addr) =>
                RunQ .sl P (Instr.loadAt T_sl_uint8 (.pointer (some a19))) w16 fun (s20 : Sl) =>
                RunK .str P (convert T_sl_uint8 T_string s20.v) w16 fun (t21 : ByteArray) w22 =>
                R (.bool (ByteArray.toList t21 == (ByteArray.mk #[97]).toList)) w22)
               (R (.bool false) w16))
             (R (.bool false) w16))
           (R (.bool false) w14))
          (R (.bool false) w14)
def an_law07_awake : Ann := ⟨[], [], []⟩
theorem e_law07_awake (R : Value → World → Prop) (w : World) : denF P an_law07_awake Try.f38 [] w R = S_law07_awake R  w := by kernel_rfl
theorem c_law07_awake {R : Value → World → Prop} {w : World} (h : S_law07_awake R  w) : CallP P F_law07_awake [] w R := calls_of_denF (an := an_law07_awake) Try.func38 (by rw [e_law07_awake]; exact h)


/-- penstock/batch.Decode -/
def S_batch_Decode (R : Value → World → Prop) (x0 : Sl) (w : World) : Prop :=
 RunK .addr P (Instr.alloc T_api_Batch true (.tuple #[])) w fun (a0 : Addr) w1 =>
 CallP P F_codec_NewReader [x0.v] w1 fun (v2 : Value) w3 =>
  TyP .ptr v2 fun (p4 : Option Addr) =>
   CallP P F_codec_Reader_Int [(.pointer p4)] w3 fun (v5 : Value) w6 =>
    TyP (.int .i64) v5 fun (n7 : Int) =>
     CallP P F_codec_Reader_Int [(.pointer p4)] w6 fun (v8 : Value) w9 =>
      TyP (.int .i64) v8 fun (n10 : Int) =>
       CallP P F_codec_Reader_Uint [(.pointer p4)] w9 fun (v11 : Value) w12 =>
        TyP (.int .u64) v11 fun (n13 : Int) =>
         CallP P F_codec_Reader_Int [(.pointer p4)] w12 fun (v14 : Value) w15 =>
          TyP (.int .i64) v14 fun (n16 : Int) =>
           CallP P F_codec_Reader_Int [(.pointer p4)] w15 fun (v17 : Value) w18 =>
            TyP (.int .i64) v17 fun (n19 : Int) =>
             CallP P F_codec_Reader_Flag [(.pointer p4)] w18 fun (v20 : Value) w21 =>
              TyP .bool v20 fun (b22 : Bool) =>
               CallP P F_codec_Reader_Flag [(.pointer p4)] w21 fun (v23 : Value) w24 =>
                TyP .bool v23 fun (b25 : Bool) =>
                CallP P F_codec_Reader_Flag [(.pointer p4)] w24 fun (v26 : Value) w27 =>
                TyP .bool v26 fun (b28 : Bool) =>
                RunK .addr P (Instr.alloc T_api_Batch true (.tuple #[])) w27 fun (a29 : Addr) w30 =>
                StoreP P T_api_Batch (.pointer (some a29)) (.agg #[(.int .i64 n7), (.int .i64 n10), (.int .u64 n13), (.int .i64 n16), (.int .i64 n19), (.bool b22), (.bool b25), (.bool b28), (.slice none 0 0)]) w30 fun w31 =>
                CallP P F_codec_Reader_Uint [(.pointer p4)] w31 fun (v32 : Value) w33 =>
                TyP (.int .u64) v32 fun (n34 : Int) =>
                JoinP (T := Unit) (fun J35 =>
                CallP P F_codec_Reader_State [(.pointer p4)] w33 fun (v38 : Value) w39 =>
                TupP [(.int .i64), (.int .i64), (.int .i64)] v38 fun (t40 : Int × Int × Int × Unit) =>
                ifB (t40.snd.snd.fst == 0)
                (ifB (decide (n34 > 16))
                (StoreP P T_api_Batch (.pointer (some a0)) (.agg #[(.int .i64 0), (.int .i64 0), (.int .u64 0), (.int .i64 0), (.int .i64 0), (.bool false), (.bool false), (.bool false), (.slice none 0 0)]) w39 fun w41 =>
                LoadK .val P T_api_Batch (.pointer (some a0)) w41 fun (v42 : Value) =>
                R (.tuple #[v42, (.int .i64 2)]) w41)
                (J35 (some ()) w39))
                (J35 (some ()) w39))
                fun t36 w37 =>
                LoopP (T := Int × Unit) (some (0, ())) w37 fun next43 t44 w45 =>
                ifB (decide (t44.fst < n34))
                ((RunQ .sl P (Instr.loadAt T_sl_sl_uint8 (.pointer (some (Go.Addr.add a29 8)))) w45.drew fun (s46 : Sl) =>
                (True) ∧
                CallP P F_codec_Reader_Bytes [(.pointer p4)] w45.drew fun (v47 : Value) w48 =>
                TyP .sl v47 fun (s49 : Sl) =>
                (True) ∧
                RunK .sl P (Instr.buildSlice T_sl_sl_uint8 1 #[(0, s49.v)]) w48 fun (s50 : Sl) w51 =>
                (True) ∧
                RunK .sl P (Builtin.append_ #[T_sl_sl_uint8, T_sl_sl_uint8] T_sl_sl_uint8 #[s46.v, s50.v]) w51 fun (s52 : Sl) w53 =>
                (True) ∧
                StoreP P T_sl_sl_uint8 (.pointer (some (Go.Addr.add a29 8))) s52.v w53 fun w54 =>
                (True) ∧
                next43 (some ((IntKind.u64.wrap (t44.fst + 1)), ())) w54) ∧
                (CallP P F_codec_Reader_Bytes [(.pointer p4)] w45.drew fun (v55 : Value) w56 =>
                TyP .sl v55 fun (s57 : Sl) =>
                (True) ∧
                (RunQ .sl P (Instr.loadAt T_sl_sl_uint8 (.pointer (some (Go.Addr.add a29 8)))) w56 fun (s58 : Sl) =>
                (True) ∧
                RunK .sl P (Instr.buildSlice T_sl_sl_uint8 1 #[(0, s57.v)]) w56 fun (s59 : Sl) w60 =>
                (True) ∧
                RunK .sl P (Builtin.append_ #[T_sl_sl_uint8, T_sl_sl_uint8] T_sl_sl_uint8 #[s58.v, s59.v]) w60 fun (s61 : Sl) w62 =>
                (True) ∧
                StoreP P T_sl_sl_uint8 (.pointer (some (Go.Addr.add a29 8))) s61.v w62 fun w63 =>
                (True) ∧
                next43 (some ((IntKind.u64.wrap (t44.fst + 1)), ())) w63) ∧
                (RunK .sl P (Instr.buildSlice T_sl_sl_uint8 1 #[(0, s57.v)]) w56 fun (s64 : Sl) w65 =>
                (True) ∧
                RunQ .sl P (Instr.loadAt T_sl_sl_uint8 (.pointer (some (Go.Addr.add a29 8)))) w65 fun (s66 : Sl) =>
                (True) ∧
                RunK .sl P (Builtin.append_ #[T_sl_sl_uint8, T_sl_sl_uint8] T_sl_sl_uint8 #[s66.v, s64.v]) w65 fun (s67 : Sl) w68 =>
                (True) ∧
                StoreP P T_sl_sl_uint8 (.pointer (some (Go.Addr.add a29 8))) s67.v w68 fun w69 =>
                (True) ∧
                next43 (some ((IntKind.u64.wrap (t44.fst + 1)), ())) w69) ∧
                True) ∧
                True)
                (CallP P F_codec_Reader_End [(.pointer p4)] w45 fun (v70 : Value) w71 =>
                TyP (.int .i64) v70 fun (n72 : Int) =>
                ifB (n72 != 0)
                (StoreP P T_api_Batch (.pointer (some a0)) (.agg #[(.int .i64 0), (.int .i64 0), (.int .u64 0), (.int .i64 0), (.int .i64 0), (.bool false), (.bool false), (.bool false), (.slice none 0 0)]) w71 fun w73 =>
                LoadK .val P T_api_Batch (.pointer (some a0)) w73 fun (v74 : Value) =>
                R (.tuple #[v74, (.int .i64 n72)]) w73)
                (RunQ .val P (Instr.loadAt T_api_Batch (.pointer (some a29))) w71 fun (v75 : Value) =>
                CallP P F_batch_Check [v75] w71 fun (v76 : Value) w77 =>
                TyP (.int .i64) v76 fun (n78 : Int) =>
                ifB (n78 != 0)
                (StoreP P T_api_Batch (.pointer (some a0)) (.agg #[(.int .i64 0), (.int .i64 0), (.int .u64 0), (.int .i64 0), (.int .i64 0), (.bool false), (.bool false), (.bool false), (.slice none 0 0)]) w77 fun w79 =>
                LoadK .val P T_api_Batch (.pointer (some a0)) w79 fun (v80 : Value) =>
                R (.tuple #[v80, (.int .i64 n78)]) w79)
                (RunQ .val P (Instr.loadAt T_api_Batch (.pointer (some a29))) w77 fun (v81 : Value) =>
                StoreP P T_api_Batch (.pointer (some a0)) v81 w77 fun w82 =>
                LoadK .val P T_api_Batch (.pointer (some a0)) w82 fun (v83 : Value) =>
                R (.tuple #[v83, (.int .i64 0)]) w82)))
def an_batch_Decode : Ann := ⟨[(7, [])], [(8, [(47, (.int .u64))])], [9]⟩
theorem e_batch_Decode (R : Value → World → Prop) (x0 : Sl) (w : World) : denF P an_batch_Decode Try.f39 [x0.v] w R = S_batch_Decode R x0 w := by kernel_rfl
theorem c_batch_Decode {R : Value → World → Prop} {x0 : Sl} {w : World} (h : S_batch_Decode R x0 w) : CallP P F_batch_Decode [x0.v] w R := calls_of_denF (an := an_batch_Decode) Try.func39 (by rw [e_batch_Decode]; exact h)


/-- penstock/penstockref07.Same -/
def S_ref07_Same (R : Value → World → Prop) (x0 : Value) (x1 : Value) (w : World) : Prop :=
 RunK .addr P (Instr.box T_api_Batch x0) w fun (a0 : Addr) w1 =>
 RunK .addr P (Instr.box T_api_Batch x1) w1 fun (a2 : Addr) w3 =>
  JoinP (T := Unit) (fun J4 =>
   RunQ (.int .i64) P (Instr.loadAt T_int (.pointer (some (Go.Addr.add a0 0)))) w3 fun (n7 : Int) =>
    RunQ (.int .i64) P (Instr.loadAt T_int (.pointer (some (Go.Addr.add a2 0)))) w3 fun (n8 : Int) =>
     ifB (n7 != n8)
      (R (.bool false) w3)
      (RunQ (.int .i64) P (Instr.loadAt T_int (.pointer (some (Go.Addr.add a0 1)))) w3 fun (n9 : Int) =>
       RunQ (.int .i64) P (Instr.loadAt T_int (.pointer (some (Go.Addr.add a2 1)))) w3 fun (n10 : Int) =>
        ifB (n9 != n10)
         (R (.bool false) w3)
         (RunQ (.int .u64) P (Instr.loadAt T_uint64 (.pointer (some (Go.Addr.add a0 2)))) w3 fun (n11 : Int) =>
          RunQ (.int .u64) P (Instr.loadAt T_uint64 (.pointer (some (Go.Addr.add a2 2)))) w3 fun (n12 : Int) =>
           ifB (n11 != n12)
            (R (.bool false) w3)
            (RunQ (.int .i64) P (Instr.loadAt T_int (.pointer (some (Go.Addr.add a0 3)))) w3 fun (n13 : Int) =>
             RunQ (.int .i64) P (Instr.loadAt T_int (.pointer (some (Go.Addr.add a2 3)))) w3 fun (n14 : Int) =>
              ifB (n13 != n14)
               (R (.bool false) w3)
               (RunQ (.int .i64) P (Instr.loadAt T_int (.pointer (some (Go.Addr.add a0 4)))) w3 fun (n15 : Int) =>
                RunQ (.int .i64) P (Instr.loadAt T_int (.pointer (some (Go.Addr.add a2 4)))) w3 fun (n16 : Int) =>
                ifB (n15 != n16)
                (R (.bool false) w3)
                (RunQ .bool P (Instr.loadAt T_bool (.pointer (some (Go.Addr.add a0 5)))) w3 fun (b17 : Bool) =>
                RunQ .bool P (Instr.loadAt T_bool (.pointer (some (Go.Addr.add a2 5)))) w3 fun (b18 : Bool) =>
                ifB (!b17 == b18)
                (R (.bool false) w3)
                (RunQ .bool P (Instr.loadAt T_bool (.pointer (some (Go.Addr.add a0 6)))) w3 fun (b19 : Bool) =>
                RunQ .bool P (Instr.loadAt T_bool (.pointer (some (Go.Addr.add a2 6)))) w3 fun (b20 : Bool) =>
                ifB (!b19 == b20)
                (R (.bool false) w3)
                (RunQ .bool P (Instr.loadAt T_bool (.pointer (some (Go.Addr.add a0 7)))) w3 fun (b21 : Bool) =>
                RunQ .bool P (Instr.loadAt T_bool (.pointer (some (Go.Addr.add a2 7)))) w3 fun (b22 : Bool) =>
                ifB (!b21 == b22)
                (R (.bool false) w3)
                (RunQ .sl P (Instr.loadAt T_sl_sl_uint8 (.pointer (some (Go.Addr.add a0 8)))) w3 fun (s23 : Sl) =>
                RunQ .sl P (Instr.loadAt T_sl_sl_uint8 (.pointer (some (Go.Addr.add a2 8)))) w3 fun (s24 : Sl) =>
                ifB ((↑s23.len : Int) != (↑s24.len : Int))
                (R (.bool false) w3)
                (J4 (some ()) w3))))))))))
   fun t5 w6 =>
   LoopP (T := Int × Unit) (some (0, ())) w6 fun next25 t26 w27 =>
    RunQ .sl P (Instr.loadAt T_sl_sl_uint8 (.pointer (some (Go.Addr.add a0 8)))) w27 fun (s28 : Sl) =>
     ifB (decide (t26.fst < (↑s28.len : Int)))
      (∃ S29 : World → Prop, (S29 w27.drew) ∧
        HRun S29 .sl P (Instr.loadAt T_sl_sl_uint8 (.pointer (some (Go.Addr.add a0 8)))) fun (s30 : Sl) =>
         HRun S29 .addr P (Instr.indexAt T_sl_sl_uint8 s30.v (.int .i64 t26.fst)) fun (a31 : Addr) =>
          HRun S29 .sl P (Instr.loadAt T_sl_uint8 (.pointer (some a31))) fun (s32 : Sl) =>
           HRun S29 .sl P (Instr.loadAt T_sl_sl_uint8 (.pointer (some (Go.Addr.add a2 8)))) fun (s33 : Sl) =>
            HRun S29 .addr P (Instr.indexAt T_sl_sl_uint8 s33.v (.int .i64 t26.fst)) fun (a34 : Addr) =>
             HRun S29 .sl P (Instr.loadAt T_sl_uint8 (.pointer (some a34))) fun (s35 : Sl) =>
              CallP P F_ref03_Same [s32.v, s35.v] w27.drew fun (v36 : Value) w37 =>
               TyP .bool v36 fun (b38 : Bool) =>
                (S29 w37) ∧
                ifB (!b38)
                (R (.bool false) w37)
                (next25 (some ((IntKind.i64.wrap (t26.fst + 1)), ())) w37))
      (R (.bool true) w27)
def an_ref07_Same : Ann := ⟨[(3, [])], [(4, [(5, (.int .i64))])], []⟩
theorem e_ref07_Same (R : Value → World → Prop) (x0 : Value) (x1 : Value) (w : World) : denF P an_ref07_Same Try.f40 [x0, x1] w R = S_ref07_Same R x0 x1 w := by kernel_rfl
theorem c_ref07_Same {R : Value → World → Prop} {x0 : Value} {x1 : Value} {w : World} (h : S_ref07_Same R x0 x1 w) : CallP P F_ref07_Same [x0, x1] w R := calls_of_denF (an := an_ref07_Same) Try.func40 (by rw [e_ref07_Same]; exact h)


/-- penstock/batch.Encode -/
def S_batch_Encode (R : Value → World → Prop) (x0 : Value) (w : World) : Prop :=
 RunK .addr P (Instr.box T_api_Batch x0) w fun (a0 : Addr) w1 =>
 RunQ .val P (Instr.loadAt T_api_Batch (.pointer (some a0))) w1 fun (v2 : Value) =>
  CallP P F_batch_Check [v2] w1 fun (v3 : Value) w4 =>
   TyP (.int .i64) v3 fun (n5 : Int) =>
    ifB (n5 != 0)
     (R (.tuple #[(.slice none 0 0), (.int .i64 n5)]) w4)
     (CallP P F_codec_NewWriter [] w4 fun (v6 : Value) w7 =>
      TyP .ptr v6 fun (p8 : Option Addr) =>
       RunQ (.int .i64) P (Instr.loadAt T_int (.pointer (some (Go.Addr.add a0 0)))) w7 fun (n9 : Int) =>
        CallP P F_codec_Writer_Int [(.pointer p8), (.int .i64 n9)] w7 fun (v10 : Value) w11 =>
         TupP [] v10 fun (t12 : Unit) =>
          RunQ (.int .i64) P (Instr.loadAt T_int (.pointer (some (Go.Addr.add a0 1)))) w11 fun (n13 : Int) =>
           CallP P F_codec_Writer_Int [(.pointer p8), (.int .i64 n13)] w11 fun (v14 : Value) w15 =>
            TupP [] v14 fun (t16 : Unit) =>
             RunQ (.int .u64) P (Instr.loadAt T_uint64 (.pointer (some (Go.Addr.add a0 2)))) w15 fun (n17 : Int) =>
              CallP P F_codec_Writer_Uint [(.pointer p8), (.int .u64 n17)] w15 fun (v18 : Value) w19 =>
               TupP [] v18 fun (t20 : Unit) =>
                RunQ (.int .i64) P (Instr.loadAt T_int (.pointer (some (Go.Addr.add a0 3)))) w19 fun (n21 : Int) =>
                CallP P F_codec_Writer_Int [(.pointer p8), (.int .i64 n21)] w19 fun (v22 : Value) w23 =>
                TupP [] v22 fun (t24 : Unit) =>
                RunQ (.int .i64) P (Instr.loadAt T_int (.pointer (some (Go.Addr.add a0 4)))) w23 fun (n25 : Int) =>
                CallP P F_codec_Writer_Int [(.pointer p8), (.int .i64 n25)] w23 fun (v26 : Value) w27 =>
                TupP [] v26 fun (t28 : Unit) =>
                RunQ .bool P (Instr.loadAt T_bool (.pointer (some (Go.Addr.add a0 5)))) w27 fun (b29 : Bool) =>
                RunQ .bool P (Instr.loadAt T_bool (.pointer (some (Go.Addr.add a0 6)))) w27 fun (b30 : Bool) =>
                RunQ .bool P (Instr.loadAt T_bool (.pointer (some (Go.Addr.add a0 7)))) w27 fun (b31 : Bool) =>
                RunK .sl P (Instr.buildSlice T_sl_bool 3 #[(0, (.bool b29)), (1, (.bool b30)), (2, (.bool b31))]) w27 fun (s32 : Sl) w33 =>
                LoopP (T := Int × Unit) (some (0, ())) w33 fun next34 t35 w36 =>
                ifB (decide (t35.fst < (↑s32.len : Int)))
                (RunQ .addr P (Instr.indexAt T_sl_bool s32.v (.int .i64 t35.fst)) w36 fun (a37 : Addr) =>
                RunQ .bool P (Instr.loadAt T_bool (.pointer (some a37))) w36 fun (b38 : Bool) =>
                CallP P F_codec_Writer_Flag [(.pointer p8), (.bool b38)] w36 fun (v39 : Value) w40 =>
                TupP [] v39 fun (t41 : Unit) =>
                next34 (some ((IntKind.i64.wrap (t35.fst + 1)), ())) w40)
                (RunQ .sl P (Instr.loadAt T_sl_sl_uint8 (.pointer (some (Go.Addr.add a0 8)))) w36 fun (s42 : Sl) =>
                CallP P F_codec_Writer_Uint [(.pointer p8), (.int .u64 (IntKind.u64.wrap (↑s42.len : Int)))] w36 fun (v43 : Value) w44 =>
                TupP [] v43 fun (t45 : Unit) =>
                RunQ .sl P (Instr.loadAt T_sl_sl_uint8 (.pointer (some (Go.Addr.add a0 8)))) w44 fun (s46 : Sl) =>
                LoopP (T := Int × Unit) (some (0, ())) w44 fun next47 t48 w49 =>
                ifB (decide (t48.fst < (↑s46.len : Int)))
                (RunQ .addr P (Instr.indexAt T_sl_sl_uint8 s46.v (.int .i64 t48.fst)) w49 fun (a50 : Addr) =>
                RunQ .sl P (Instr.loadAt T_sl_uint8 (.pointer (some a50))) w49 fun (s51 : Sl) =>
                CallP P F_codec_Writer_Bytes [(.pointer p8), s51.v] w49 fun (v52 : Value) w53 =>
                TupP [] v52 fun (t54 : Unit) =>
                next47 (some ((IntKind.i64.wrap (t48.fst + 1)), ())) w53)
                (CallP P F_codec_Writer_Out [(.pointer p8)] w49 fun (v55 : Value) w56 =>
                TupP [.sl, (.int .i64)] v55 fun (t57 : Sl × Int × Unit) =>
                R (.tuple #[t57.fst.v, (.int .i64 t57.snd.fst)]) w56)))
def an_batch_Encode : Ann := ⟨[], [(11, [(44, (.int .i64))]), (17, [(61, (.int .i64))])], []⟩
theorem e_batch_Encode (R : Value → World → Prop) (x0 : Value) (w : World) : denF P an_batch_Encode Try.f41 [x0] w R = S_batch_Encode R x0 w := by kernel_rfl
theorem c_batch_Encode {R : Value → World → Prop} {x0 : Value} {w : World} (h : S_batch_Encode R x0 w) : CallP P F_batch_Encode [x0] w R := calls_of_denF (an := an_batch_Encode) Try.func41 (by rw [e_batch_Encode]; exact h)


/-- penstock/penstockref07.Copy -/
def S_ref07_Copy (R : Value → World → Prop) (x0 : Value) (w : World) : Prop :=
 RunK .addr P (Instr.box T_api_Batch x0) w fun (a0 : Addr) w1 =>
 RunK .addr P (Instr.alloc T_api_Batch true (.tuple #[])) w1 fun (a2 : Addr) w3 =>
  LoopP (T := Sl × Int × Unit) (some (⟨none, 0, 0⟩, (0, ()))) w3 fun next4 t5 w6 =>
   RunQ .sl P (Instr.loadAt T_sl_sl_uint8 (.pointer (some (Go.Addr.add a0 8)))) w6 fun (s7 : Sl) =>
    ifB (decide (t5.snd.fst < (↑s7.len : Int)))
     (RunQ .sl P (Instr.loadAt T_sl_sl_uint8 (.pointer (some (Go.Addr.add a0 8)))) w6 fun (s8 : Sl) =>
      RunQ .addr P (Instr.indexAt T_sl_sl_uint8 s8.v (.int .i64 t5.snd.fst)) w6 fun (a9 : Addr) =>
       RunQ .sl P (Instr.loadAt T_sl_uint8 (.pointer (some a9))) w6 fun (s10 : Sl) =>
        RunK .sl P (Builtin.append_ #[T_sl_uint8, T_sl_uint8] T_sl_uint8 #[(.slice none 0 0), s10.v]) w6 fun (s11 : Sl) w12 =>
         RunK .sl P (Instr.buildSlice T_sl_sl_uint8 1 #[(0, s11.v)]) w12 fun (s13 : Sl) w14 =>
          RunK .sl P (Builtin.append_ #[T_sl_sl_uint8, T_sl_sl_uint8] T_sl_sl_uint8 #[t5.fst.v, s13.v]) w14 fun (s15 : Sl) w16 =>
           next4 (some (s15, ((IntKind.i64.wrap (t5.snd.fst + 1)), ()))) w16)
     (StoreP P T_sl_sl_uint8 (.pointer (some (Go.Addr.add a0 8))) t5.fst.v w6 fun w17 =>
      RunQ .val P (Instr.loadAt T_api_Batch (.pointer (some a0))) w17 fun (v18 : Value) =>
       StoreP P T_api_Batch (.pointer (some a2)) v18 w17 fun w19 =>
        LoadK .val P T_api_Batch (.pointer (some a2)) w19 fun (v20 : Value) =>
         R v20 w19)
def an_ref07_Copy : Ann := ⟨[], [(3, [(3, .sl), (4, (.int .i64))])], []⟩
theorem e_ref07_Copy (R : Value → World → Prop) (x0 : Value) (w : World) : denF P an_ref07_Copy Try.f42 [x0] w R = S_ref07_Copy R x0 w := by kernel_rfl
theorem c_ref07_Copy {R : Value → World → Prop} {x0 : Value} {w : World} (h : S_ref07_Copy R x0 w) : CallP P F_ref07_Copy [x0] w R := calls_of_denF (an := an_ref07_Copy) Try.func42 (by rw [e_ref07_Copy]; exact h)


/-- penstock/batch.Check -/
def S_batch_Check (R : Value → World → Prop) (x0 : Value) (w : World) : Prop :=
 RunK .addr P (Instr.box T_api_Batch x0) w fun (a0 : Addr) w1 =>
 JoinP (T := Unit) (fun J2 =>
  RunQ (.int .i64) P (Instr.loadAt T_int (.pointer (some (Go.Addr.add a0 0)))) w1 fun (n5 : Int) =>
   ifB (decide (n5 < 0))
    (R (.int .i64 1) w1)
    (RunQ (.int .i64) P (Instr.loadAt T_int (.pointer (some (Go.Addr.add a0 1)))) w1 fun (n6 : Int) =>
     ifB (decide (n6 < 0))
      (R (.int .i64 1) w1)
      (RunQ (.int .i64) P (Instr.loadAt T_int (.pointer (some (Go.Addr.add a0 3)))) w1 fun (n7 : Int) =>
       ifB (decide (n7 < 0))
        (R (.int .i64 1) w1)
        (RunQ (.int .i64) P (Instr.loadAt T_int (.pointer (some (Go.Addr.add a0 3)))) w1 fun (n8 : Int) =>
         ifB (decide (n8 > 1000))
          (R (.int .i64 1) w1)
          (RunQ (.int .i64) P (Instr.loadAt T_int (.pointer (some (Go.Addr.add a0 4)))) w1 fun (n9 : Int) =>
           ifB (decide (n9 < 0))
            (R (.int .i64 1) w1)
            (RunQ (.int .u64) P (Instr.loadAt T_uint64 (.pointer (some (Go.Addr.add a0 2)))) w1 fun (n10 : Int) =>
             ifB (decide (n10 > 1000))
              (R (.int .i64 1) w1)
              (RunQ .bool P (Instr.loadAt T_bool (.pointer (some (Go.Addr.add a0 6)))) w1 fun (b11 : Bool) =>
               ifB b11
                (RunQ .sl P (Instr.loadAt T_sl_sl_uint8 (.pointer (some (Go.Addr.add a0 8)))) w1 fun (s12 : Sl) =>
                ifB (decide ((↑s12.len : Int) > 0))
                (R (.int .i64 7) w1)
                (RunQ .bool P (Instr.loadAt T_bool (.pointer (some (Go.Addr.add a0 5)))) w1 fun (b13 : Bool) =>
                ifB (!b13)
                (R (.int .i64 7) w1)
                (RunQ (.int .u64) P (Instr.loadAt T_uint64 (.pointer (some (Go.Addr.add a0 2)))) w1 fun (n14 : Int) =>
                ifB (n14 == 0)
                (R (.int .i64 7) w1)
                (RunQ (.int .i64) P (Instr.loadAt T_int (.pointer (some (Go.Addr.add a0 4)))) w1 fun (n15 : Int) =>
                ifB (decide (n15 > 0))
                (R (.int .i64 7) w1)
                (RunQ .bool P (Instr.loadAt T_bool (.pointer (some (Go.Addr.add a0 6)))) w1 fun (b16 : Bool) =>
                ifB (!b16)
                (RunQ .sl P (Instr.loadAt T_sl_sl_uint8 (.pointer (some (Go.Addr.add a0 8)))) w1 fun (s17 : Sl) =>
                ifB ((↑s17.len : Int) == 0)
                (R (.int .i64 7) w1)
                (RunQ .bool P (Instr.loadAt T_bool (.pointer (some (Go.Addr.add a0 7)))) w1 fun (b18 : Bool) =>
                ifB b18
                (R (.int .i64 7) w1)
                (RunQ .bool P (Instr.loadAt T_bool (.pointer (some (Go.Addr.add a0 5)))) w1 fun (b19 : Bool) =>
                ifB b19
                (RunQ (.int .u64) P (Instr.loadAt T_uint64 (.pointer (some (Go.Addr.add a0 2)))) w1 fun (n20 : Int) =>
                ifB (n20 == 0)
                (R (.int .i64 7) w1)
                (RunQ (.int .u64) P (Instr.loadAt T_uint64 (.pointer (some (Go.Addr.add a0 2)))) w1 fun (n21 : Int) =>
                ifB (n21 == 0)
                (RunQ (.int .i64) P (Instr.loadAt T_int (.pointer (some (Go.Addr.add a0 3)))) w1 fun (n22 : Int) =>
                ifB (decide (n22 > 0))
                (R (.int .i64 7) w1)
                (RunQ (.int .i64) P (Instr.loadAt T_int (.pointer (some (Go.Addr.add a0 4)))) w1 fun (n23 : Int) =>
                ifB (decide (n23 > 0))
                (R (.int .i64 7) w1)
                (RunQ .sl P (Instr.loadAt T_sl_sl_uint8 (.pointer (some (Go.Addr.add a0 8)))) w1 fun (s24 : Sl) =>
                ifB (decide ((↑s24.len : Int) > 16))
                (R (.int .i64 2) w1)
                (J2 (some ()) w1))))
                (RunQ .sl P (Instr.loadAt T_sl_sl_uint8 (.pointer (some (Go.Addr.add a0 8)))) w1 fun (s25 : Sl) =>
                ifB (decide ((↑s25.len : Int) > 16))
                (R (.int .i64 2) w1)
                (J2 (some ()) w1))))
                (RunQ (.int .u64) P (Instr.loadAt T_uint64 (.pointer (some (Go.Addr.add a0 2)))) w1 fun (n26 : Int) =>
                ifB (n26 == 0)
                (RunQ (.int .i64) P (Instr.loadAt T_int (.pointer (some (Go.Addr.add a0 3)))) w1 fun (n27 : Int) =>
                ifB (decide (n27 > 0))
                (R (.int .i64 7) w1)
                (RunQ (.int .i64) P (Instr.loadAt T_int (.pointer (some (Go.Addr.add a0 4)))) w1 fun (n28 : Int) =>
                ifB (decide (n28 > 0))
                (R (.int .i64 7) w1)
                (RunQ .sl P (Instr.loadAt T_sl_sl_uint8 (.pointer (some (Go.Addr.add a0 8)))) w1 fun (s29 : Sl) =>
                ifB (decide ((↑s29.len : Int) > 16))
                (R (.int .i64 2) w1)
                (J2 (some ()) w1))))
                (RunQ .sl P (Instr.loadAt T_sl_sl_uint8 (.pointer (some (Go.Addr.add a0 8)))) w1 fun (s30 : Sl) =>
                ifB (decide ((↑s30.len : Int) > 16))
                (R (.int .i64 2) w1)
                (J2 (some ()) w1))))))
                (RunQ .bool P (Instr.loadAt T_bool (.pointer (some (Go.Addr.add a0 5)))) w1 fun (b31 : Bool) =>
                ifB b31
                (RunQ (.int .u64) P (Instr.loadAt T_uint64 (.pointer (some (Go.Addr.add a0 2)))) w1 fun (n32 : Int) =>
                ifB (n32 == 0)
                (R (.int .i64 7) w1)
                (RunQ (.int .u64) P (Instr.loadAt T_uint64 (.pointer (some (Go.Addr.add a0 2)))) w1 fun (n33 : Int) =>
                ifB (n33 == 0)
                (RunQ (.int .i64) P (Instr.loadAt T_int (.pointer (some (Go.Addr.add a0 3)))) w1 fun (n34 : Int) =>
                ifB (decide (n34 > 0))
                (R (.int .i64 7) w1)
                (RunQ (.int .i64) P (Instr.loadAt T_int (.pointer (some (Go.Addr.add a0 4)))) w1 fun (n35 : Int) =>
                ifB (decide (n35 > 0))
                (R (.int .i64 7) w1)
                (RunQ .sl P (Instr.loadAt T_sl_sl_uint8 (.pointer (some (Go.Addr.add a0 8)))) w1 fun (s36 : Sl) =>
                ifB (decide ((↑s36.len : Int) > 16))
                (R (.int .i64 2) w1)
                (J2 (some ()) w1))))
                (RunQ .sl P (Instr.loadAt T_sl_sl_uint8 (.pointer (some (Go.Addr.add a0 8)))) w1 fun (s37 : Sl) =>
                ifB (decide ((↑s37.len : Int) > 16))
                (R (.int .i64 2) w1)
                (J2 (some ()) w1))))
                (RunQ (.int .u64) P (Instr.loadAt T_uint64 (.pointer (some (Go.Addr.add a0 2)))) w1 fun (n38 : Int) =>
                ifB (n38 == 0)
                (RunQ (.int .i64) P (Instr.loadAt T_int (.pointer (some (Go.Addr.add a0 3)))) w1 fun (n39 : Int) =>
                ifB (decide (n39 > 0))
                (R (.int .i64 7) w1)
                (RunQ (.int .i64) P (Instr.loadAt T_int (.pointer (some (Go.Addr.add a0 4)))) w1 fun (n40 : Int) =>
                ifB (decide (n40 > 0))
                (R (.int .i64 7) w1)
                (RunQ .sl P (Instr.loadAt T_sl_sl_uint8 (.pointer (some (Go.Addr.add a0 8)))) w1 fun (s41 : Sl) =>
                ifB (decide ((↑s41.len : Int) > 16))
                (R (.int .i64 2) w1)
                (J2 (some ()) w1))))
                (RunQ .sl P (Instr.loadAt T_sl_sl_uint8 (.pointer (some (Go.Addr.add a0 8)))) w1 fun (s42 : Sl) =>
                ifB (decide ((↑s42.len : Int) > 16))
                (R (.int .i64 2) w1)
                (J2 (some ()) w1)))))))))
                (RunQ .bool P (Instr.loadAt T_bool (.pointer (some (Go.Addr.add a0 6)))) w1 fun (b43 : Bool) =>
                ifB (!b43)
                (RunQ .sl P (Instr.loadAt T_sl_sl_uint8 (.pointer (some (Go.Addr.add a0 8)))) w1 fun (s44 : Sl) =>
                ifB ((↑s44.len : Int) == 0)
                (R (.int .i64 7) w1)
                (RunQ .bool P (Instr.loadAt T_bool (.pointer (some (Go.Addr.add a0 7)))) w1 fun (b45 : Bool) =>
                ifB b45
                (R (.int .i64 7) w1)
                (RunQ .bool P (Instr.loadAt T_bool (.pointer (some (Go.Addr.add a0 5)))) w1 fun (b46 : Bool) =>
                ifB b46
                (RunQ (.int .u64) P (Instr.loadAt T_uint64 (.pointer (some (Go.Addr.add a0 2)))) w1 fun (n47 : Int) =>
                ifB (n47 == 0)
                (R (.int .i64 7) w1)
                (RunQ (.int .u64) P (Instr.loadAt T_uint64 (.pointer (some (Go.Addr.add a0 2)))) w1 fun (n48 : Int) =>
                ifB (n48 == 0)
                (RunQ (.int .i64) P (Instr.loadAt T_int (.pointer (some (Go.Addr.add a0 3)))) w1 fun (n49 : Int) =>
                ifB (decide (n49 > 0))
                (R (.int .i64 7) w1)
                (RunQ (.int .i64) P (Instr.loadAt T_int (.pointer (some (Go.Addr.add a0 4)))) w1 fun (n50 : Int) =>
                ifB (decide (n50 > 0))
                (R (.int .i64 7) w1)
                (RunQ .sl P (Instr.loadAt T_sl_sl_uint8 (.pointer (some (Go.Addr.add a0 8)))) w1 fun (s51 : Sl) =>
                ifB (decide ((↑s51.len : Int) > 16))
                (R (.int .i64 2) w1)
                (J2 (some ()) w1))))
                (RunQ .sl P (Instr.loadAt T_sl_sl_uint8 (.pointer (some (Go.Addr.add a0 8)))) w1 fun (s52 : Sl) =>
                ifB (decide ((↑s52.len : Int) > 16))
                (R (.int .i64 2) w1)
                (J2 (some ()) w1))))
                (RunQ (.int .u64) P (Instr.loadAt T_uint64 (.pointer (some (Go.Addr.add a0 2)))) w1 fun (n53 : Int) =>
                ifB (n53 == 0)
                (RunQ (.int .i64) P (Instr.loadAt T_int (.pointer (some (Go.Addr.add a0 3)))) w1 fun (n54 : Int) =>
                ifB (decide (n54 > 0))
                (R (.int .i64 7) w1)
                (RunQ (.int .i64) P (Instr.loadAt T_int (.pointer (some (Go.Addr.add a0 4)))) w1 fun (n55 : Int) =>
                ifB (decide (n55 > 0))
                (R (.int .i64 7) w1)
                (RunQ .sl P (Instr.loadAt T_sl_sl_uint8 (.pointer (some (Go.Addr.add a0 8)))) w1 fun (s56 : Sl) =>
                ifB (decide ((↑s56.len : Int) > 16))
                (R (.int .i64 2) w1)
                (J2 (some ()) w1))))
                (RunQ .sl P (Instr.loadAt T_sl_sl_uint8 (.pointer (some (Go.Addr.add a0 8)))) w1 fun (s57 : Sl) =>
                ifB (decide ((↑s57.len : Int) > 16))
                (R (.int .i64 2) w1)
                (J2 (some ()) w1))))))
                (RunQ .bool P (Instr.loadAt T_bool (.pointer (some (Go.Addr.add a0 5)))) w1 fun (b58 : Bool) =>
                ifB b58
                (RunQ (.int .u64) P (Instr.loadAt T_uint64 (.pointer (some (Go.Addr.add a0 2)))) w1 fun (n59 : Int) =>
                ifB (n59 == 0)
                (R (.int .i64 7) w1)
                (RunQ (.int .u64) P (Instr.loadAt T_uint64 (.pointer (some (Go.Addr.add a0 2)))) w1 fun (n60 : Int) =>
                ifB (n60 == 0)
                (RunQ (.int .i64) P (Instr.loadAt T_int (.pointer (some (Go.Addr.add a0 3)))) w1 fun (n61 : Int) =>
                ifB (decide (n61 > 0))
                (R (.int .i64 7) w1)
                (RunQ (.int .i64) P (Instr.loadAt T_int (.pointer (some (Go.Addr.add a0 4)))) w1 fun (n62 : Int) =>
                ifB (decide (n62 > 0))
                (R (.int .i64 7) w1)
                (RunQ .sl P (Instr.loadAt T_sl_sl_uint8 (.pointer (some (Go.Addr.add a0 8)))) w1 fun (s63 : Sl) =>
                ifB (decide ((↑s63.len : Int) > 16))
                (R (.int .i64 2) w1)
                (J2 (some ()) w1))))
                (RunQ .sl P (Instr.loadAt T_sl_sl_uint8 (.pointer (some (Go.Addr.add a0 8)))) w1 fun (s64 : Sl) =>
                ifB (decide ((↑s64.len : Int) > 16))
                (R (.int .i64 2) w1)
                (J2 (some ()) w1))))
                (RunQ (.int .u64) P (Instr.loadAt T_uint64 (.pointer (some (Go.Addr.add a0 2)))) w1 fun (n65 : Int) =>
                ifB (n65 == 0)
                (RunQ (.int .i64) P (Instr.loadAt T_int (.pointer (some (Go.Addr.add a0 3)))) w1 fun (n66 : Int) =>
                ifB (decide (n66 > 0))
                (R (.int .i64 7) w1)
                (RunQ (.int .i64) P (Instr.loadAt T_int (.pointer (some (Go.Addr.add a0 4)))) w1 fun (n67 : Int) =>
                ifB (decide (n67 > 0))
                (R (.int .i64 7) w1)
                (RunQ .sl P (Instr.loadAt T_sl_sl_uint8 (.pointer (some (Go.Addr.add a0 8)))) w1 fun (s68 : Sl) =>
                ifB (decide ((↑s68.len : Int) > 16))
                (R (.int .i64 2) w1)
                (J2 (some ()) w1))))
                (RunQ .sl P (Instr.loadAt T_sl_sl_uint8 (.pointer (some (Go.Addr.add a0 8)))) w1 fun (s69 : Sl) =>
                ifB (decide ((↑s69.len : Int) > 16))
                (R (.int .i64 2) w1)
                (J2 (some ()) w1))))))))))))
  fun t3 w4 =>
  RunQ .sl P (Instr.loadAt T_sl_sl_uint8 (.pointer (some (Go.Addr.add a0 8)))) w4 fun (s70 : Sl) =>
   LoopP (T := Int × Unit) (some (0, ())) w4 fun next71 t72 w73 =>
    ifB (decide (t72.fst < (↑s70.len : Int)))
     (RunQ .addr P (Instr.indexAt T_sl_sl_uint8 s70.v (.int .i64 t72.fst)) w73 fun (a74 : Addr) =>
      RunQ .sl P (Instr.loadAt T_sl_uint8 (.pointer (some a74))) w73 fun (s75 : Sl) =>
       ifB (decide ((↑s75.len : Int) > 64))
        (R (.int .i64 2) w73)
        (next71 (some ((IntKind.i64.wrap (t72.fst + 1)), ())) w73))
     (R (.int .i64 0) w73)
def an_batch_Check : Ann := ⟨[(10, [])], [(11, [(99, (.int .i64))])], []⟩
theorem e_batch_Check (R : Value → World → Prop) (x0 : Value) (w : World) : denF P an_batch_Check Try.f43 [x0] w R = S_batch_Check R x0 w := by kernel_rfl
theorem c_batch_Check {R : Value → World → Prop} {x0 : Value} {w : World} (h : S_batch_Check R x0 w) : CallP P F_batch_Check [x0] w R := calls_of_denF (an := an_batch_Check) Try.func43 (by rw [e_batch_Check]; exact h)


/-- penstock/penstockref07.DocEncode -/
def S_ref07_DocEncode (R : Value → World → Prop) (x0 : Value) (w : World) : Prop :=
 RunK .addr P (Instr.box T_api_Batch x0) w fun (a0 : Addr) w1 =>
 RunQ .val P (Instr.loadAt T_api_Batch (.pointer (some a0))) w1 fun (v2 : Value) =>
  CallP P F_ref07_DocCheck [v2] w1 fun (v3 : Value) w4 =>
   TyP (.int .i64) v3 fun (n5 : Int) =>
    ifB (n5 != 0)
     (R (.tuple #[(.slice none 0 0), (.int .i64 n5)]) w4)
     (RunQ (.int .i64) P (Instr.loadAt T_int (.pointer (some (Go.Addr.add a0 0)))) w4 fun (n6 : Int) =>
      CallP P F_ref03_Int [(.int .i64 n6)] w4 fun (v7 : Value) w8 =>
       TyP .sl v7 fun (s9 : Sl) =>
        RunQ (.int .i64) P (Instr.loadAt T_int (.pointer (some (Go.Addr.add a0 1)))) w8 fun (n10 : Int) =>
         CallP P F_ref03_Int [(.int .i64 n10)] w8 fun (v11 : Value) w12 =>
          TyP .sl v11 fun (s13 : Sl) =>
           RunK .sl P (Builtin.append_ #[T_sl_uint8, T_sl_uint8] T_sl_uint8 #[s9.v, s13.v]) w12 fun (s14 : Sl) w15 =>
            RunQ (.int .u64) P (Instr.loadAt T_uint64 (.pointer (some (Go.Addr.add a0 2)))) w15 fun (n16 : Int) =>
             CallP P F_ref03_Uint [(.int .u64 n16)] w15 fun (v17 : Value) w18 =>
              TyP .sl v17 fun (s19 : Sl) =>
               RunK .sl P (Builtin.append_ #[T_sl_uint8, T_sl_uint8] T_sl_uint8 #[s14.v, s19.v]) w18 fun (s20 : Sl) w21 =>
                RunQ (.int .i64) P (Instr.loadAt T_int (.pointer (some (Go.Addr.add a0 3)))) w21 fun (n22 : Int) =>
                CallP P F_ref03_Int [(.int .i64 n22)] w21 fun (v23 : Value) w24 =>
                TyP .sl v23 fun (s25 : Sl) =>
                RunK .sl P (Builtin.append_ #[T_sl_uint8, T_sl_uint8] T_sl_uint8 #[s20.v, s25.v]) w24 fun (s26 : Sl) w27 =>
                RunQ (.int .i64) P (Instr.loadAt T_int (.pointer (some (Go.Addr.add a0 4)))) w27 fun (n28 : Int) =>
                CallP P F_ref03_Int [(.int .i64 n28)] w27 fun (v29 : Value) w30 =>
                TyP .sl v29 fun (s31 : Sl) =>
                RunK .sl P (Builtin.append_ #[T_sl_uint8, T_sl_uint8] T_sl_uint8 #[s26.v, s31.v]) w30 fun (s32 : Sl) w33 =>
                RunQ .bool P (Instr.loadAt T_bool (.pointer (some (Go.Addr.add a0 5)))) w33 fun (b34 : Bool) =>
                CallP P F_ref03_Flag [(.bool b34)] w33 fun (v35 : Value) w36 =>
                TyP .sl v35 fun (s37 : Sl) =>
                RunK .sl P (Builtin.append_ #[T_sl_uint8, T_sl_uint8] T_sl_uint8 #[s32.v, s37.v]) w36 fun (s38 : Sl) w39 =>
                RunQ .bool P (Instr.loadAt T_bool (.pointer (some (Go.Addr.add a0 6)))) w39 fun (b40 : Bool) =>
                CallP P F_ref03_Flag [(.bool b40)] w39 fun (v41 : Value) w42 =>
                TyP .sl v41 fun (s43 : Sl) =>
                RunK .sl P (Builtin.append_ #[T_sl_uint8, T_sl_uint8] T_sl_uint8 #[s38.v, s43.v]) w42 fun (s44 : Sl) w45 =>
                RunQ .bool P (Instr.loadAt T_bool (.pointer (some (Go.Addr.add a0 7)))) w45 fun (b46 : Bool) =>
                CallP P F_ref03_Flag [(.bool b46)] w45 fun (v47 : Value) w48 =>
                TyP .sl v47 fun (s49 : Sl) =>
                RunK .sl P (Builtin.append_ #[T_sl_uint8, T_sl_uint8] T_sl_uint8 #[s44.v, s49.v]) w48 fun (s50 : Sl) w51 =>
                RunQ .sl P (Instr.loadAt T_sl_sl_uint8 (.pointer (some (Go.Addr.add a0 8)))) w51 fun (s52 : Sl) =>
                CallP P F_ref03_Uint [(.int .u64 (IntKind.u64.wrap (↑s52.len : Int)))] w51 fun (v53 : Value) w54 =>
                TyP .sl v53 fun (s55 : Sl) =>
                RunK .sl P (Builtin.append_ #[T_sl_uint8, T_sl_uint8] T_sl_uint8 #[s50.v, s55.v]) w54 fun (s56 : Sl) w57 =>
                LoopP (T := Sl × Int × Unit) (some (s56, (0, ()))) w57 fun next58 t59 w60 =>
                RunQ .sl P (Instr.loadAt T_sl_sl_uint8 (.pointer (some (Go.Addr.add a0 8)))) w60 fun (s61 : Sl) =>
                ifB (decide (t59.snd.fst < (↑s61.len : Int)))
                (RunQ .sl P (Instr.loadAt T_sl_sl_uint8 (.pointer (some (Go.Addr.add a0 8)))) w60 fun (s62 : Sl) =>
                RunQ .addr P (Instr.indexAt T_sl_sl_uint8 s62.v (.int .i64 t59.snd.fst)) w60 fun (a63 : Addr) =>
                RunQ .sl P (Instr.loadAt T_sl_uint8 (.pointer (some a63))) w60 fun (s64 : Sl) =>
                CallP P F_ref03_Bytes [s64.v] w60 fun (v65 : Value) w66 =>
                TyP .sl v65 fun (s67 : Sl) =>
                RunK .sl P (Builtin.append_ #[T_sl_uint8, T_sl_uint8] T_sl_uint8 #[t59.fst.v, s67.v]) w66 fun (s68 : Sl) w69 =>
                next58 (some (s68, ((IntKind.i64.wrap (t59.snd.fst + 1)), ()))) w69)
                (R (.tuple #[t59.fst.v, (.int .i64 0)]) w60))
def an_ref07_DocEncode : Ann := ⟨[], [(14, [(5, .sl), (6, (.int .i64))])], []⟩
theorem e_ref07_DocEncode (R : Value → World → Prop) (x0 : Value) (w : World) : denF P an_ref07_DocEncode Try.f44 [x0] w R = S_ref07_DocEncode R x0 w := by kernel_rfl
theorem c_ref07_DocEncode {R : Value → World → Prop} {x0 : Value} {w : World} (h : S_ref07_DocEncode R x0 w) : CallP P F_ref07_DocEncode [x0] w R := calls_of_denF (an := an_ref07_DocEncode) Try.func44 (by rw [e_ref07_DocEncode]; exact h)


/-- penstock/batch.Size -/
def S_batch_Size (R : Value → World → Prop) (x0 : Value) (w : World) : Prop :=
 RunK .addr P (Instr.box T_api_Batch x0) w fun (a0 : Addr) w1 =>
 RunQ .bool P (Instr.loadAt T_bool (.pointer (some (Go.Addr.add a0 6)))) w1 fun (b2 : Bool) =>
  ifB b2
   (R (.int .i64 1) w1)
   (RunQ .sl P (Instr.loadAt T_sl_sl_uint8 (.pointer (some (Go.Addr.add a0 8)))) w1 fun (s3 : Sl) =>
    R (.int .i64 ((↑s3.len : Int))) w1)
def an_batch_Size : Ann := ⟨[], [], []⟩
theorem e_batch_Size (R : Value → World → Prop) (x0 : Value) (w : World) : denF P an_batch_Size Try.f45 [x0] w R = S_batch_Size R x0 w := by kernel_rfl
theorem c_batch_Size {R : Value → World → Prop} {x0 : Value} {w : World} (h : S_batch_Size R x0 w) : CallP P F_batch_Size [x0] w R := calls_of_denF (an := an_batch_Size) Try.func45 (by rw [e_batch_Size]; exact h)


/-- penstock/penstockref07.Size -/
def S_ref07_Size (R : Value → World → Prop) (x0 : Value) (w : World) : Prop :=
 RunK .addr P (Instr.box T_api_Batch x0) w fun (a0 : Addr) w1 =>
 RunQ .bool P (Instr.loadAt T_bool (.pointer (some (Go.Addr.add a0 6)))) w1 fun (b2 : Bool) =>
  ifB b2
   (R (.int .i64 1) w1)
   (RunQ .sl P (Instr.loadAt T_sl_sl_uint8 (.pointer (some (Go.Addr.add a0 8)))) w1 fun (s3 : Sl) =>
    R (.int .i64 ((↑s3.len : Int))) w1)
def an_ref07_Size : Ann := ⟨[], [], []⟩
theorem e_ref07_Size (R : Value → World → Prop) (x0 : Value) (w : World) : denF P an_ref07_Size Try.f46 [x0] w R = S_ref07_Size R x0 w := by kernel_rfl
theorem c_ref07_Size {R : Value → World → Prop} {x0 : Value} {w : World} (h : S_ref07_Size R x0 w) : CallP P F_ref07_Size [x0] w R := calls_of_denF (an := an_ref07_Size) Try.func46 (by rw [e_ref07_Size]; exact h)


/-- penstock/penstockref07.DocCheck -/
def S_ref07_DocCheck (R : Value → World → Prop) (x0 : Value) (w : World) : Prop :=
 RunK .addr P (Instr.box T_api_Batch x0) w fun (a0 : Addr) w1 =>
 RunQ (.int .i64) P (Instr.loadAt T_int (.pointer (some (Go.Addr.add a0 0)))) w1 fun (n2 : Int) =>
  RunQ (.int .i64) P (Instr.loadAt T_int (.pointer (some (Go.Addr.add a0 1)))) w1 fun (n3 : Int) =>
   RunQ (.int .i64) P (Instr.loadAt T_int (.pointer (some (Go.Addr.add a0 3)))) w1 fun (n4 : Int) =>
    RunQ (.int .i64) P (Instr.loadAt T_int (.pointer (some (Go.Addr.add a0 4)))) w1 fun (n5 : Int) =>
     RunK .sl P (Instr.buildSlice T_sl_int 4 #[(0, (.int .i64 n2)), (1, (.int .i64 n3)), (2, (.int .i64 n4)), (3, (.int .i64 n5))]) w1 fun (s6 : Sl) w7 =>
      LoopP (T := Int × Unit) (some (0, ())) w7 fun next8 t9 w10 =>
       ifB (decide (t9.fst < (↑s6.len : Int)))
        (RunQ .addr P (Instr.indexAt T_sl_int s6.v (.int .i64 t9.fst)) w10 fun (a11 : Addr) =>
         RunQ (.int .i64) P (Instr.loadAt T_int (.pointer (some a11))) w10 fun (n12 : Int) =>
          ifB (decide (n12 < 0))
           (R (.int .i64 1) w10)
           (next8 (some ((IntKind.i64.wrap (t9.fst + 1)), ())) w10))
        (JoinP (T := Unit) (fun J13 =>
         RunQ (.int .i64) P (Instr.loadAt T_int (.pointer (some (Go.Addr.add a0 3)))) w10 fun (n16 : Int) =>
          ifB (decide (n16 > 1000))
           (R (.int .i64 1) w10)
           (RunQ (.int .u64) P (Instr.loadAt T_uint64 (.pointer (some (Go.Addr.add a0 2)))) w10 fun (n17 : Int) =>
            ifB (decide (n17 > 1000))
             (R (.int .i64 1) w10)
             (J13 (some ()) w10)))
         fun t14 w15 =>
         JoinP (T := Unit) (fun J18 =>
          RunQ .bool P (Instr.loadAt T_bool (.pointer (some (Go.Addr.add a0 6)))) w15 fun (b21 : Bool) =>
           ifB b21
            (RunQ .sl P (Instr.loadAt T_sl_sl_uint8 (.pointer (some (Go.Addr.add a0 8)))) w15 fun (s22 : Sl) =>
             ifB (decide ((↑s22.len : Int) > 0))
              (R (.int .i64 7) w15)
              (RunQ .bool P (Instr.loadAt T_bool (.pointer (some (Go.Addr.add a0 5)))) w15 fun (b23 : Bool) =>
               ifB (!b23)
                (R (.int .i64 7) w15)
                (RunQ (.int .u64) P (Instr.loadAt T_uint64 (.pointer (some (Go.Addr.add a0 2)))) w15 fun (n24 : Int) =>
                ifB (n24 == 0)
                (R (.int .i64 7) w15)
                (RunQ (.int .i64) P (Instr.loadAt T_int (.pointer (some (Go.Addr.add a0 4)))) w15 fun (n25 : Int) =>
                ifB (n25 != 0)
                (R (.int .i64 7) w15)
                (J18 (some ()) w15)))))
            (RunQ .sl P (Instr.loadAt T_sl_sl_uint8 (.pointer (some (Go.Addr.add a0 8)))) w15 fun (s26 : Sl) =>
             ifB ((↑s26.len : Int) == 0)
              (R (.int .i64 7) w15)
              (RunQ .bool P (Instr.loadAt T_bool (.pointer (some (Go.Addr.add a0 7)))) w15 fun (b27 : Bool) =>
               ifB b27
                (R (.int .i64 7) w15)
                (J18 (some ()) w15))))
          fun t19 w20 =>
          JoinP (T := Unit) (fun J28 =>
           RunQ (.int .u64) P (Instr.loadAt T_uint64 (.pointer (some (Go.Addr.add a0 2)))) w20 fun (n31 : Int) =>
            ifB (n31 == 0)
             (RunQ .bool P (Instr.loadAt T_bool (.pointer (some (Go.Addr.add a0 5)))) w20 fun (b32 : Bool) =>
              ifB b32
               (R (.int .i64 7) w20)
               (RunQ (.int .i64) P (Instr.loadAt T_int (.pointer (some (Go.Addr.add a0 3)))) w20 fun (n33 : Int) =>
                ifB (decide (n33 > 0))
                (R (.int .i64 7) w20)
                (RunQ (.int .i64) P (Instr.loadAt T_int (.pointer (some (Go.Addr.add a0 4)))) w20 fun (n34 : Int) =>
                ifB (decide (n34 > 0))
                (R (.int .i64 7) w20)
                (J28 (some ()) w20))))
             (J28 (some ()) w20))
           fun t29 w30 =>
           RunQ .sl P (Instr.loadAt T_sl_sl_uint8 (.pointer (some (Go.Addr.add a0 8)))) w30 fun (s35 : Sl) =>
            ifB (decide ((↑s35.len : Int) > 16))
             (R (.int .i64 2) w30)
             (LoopP (T := Int × Unit) (some (0, ())) w30 fun next36 t37 w38 =>
              RunQ .sl P (Instr.loadAt T_sl_sl_uint8 (.pointer (some (Go.Addr.add a0 8)))) w38 fun (s39 : Sl) =>
               ifB (decide (t37.fst < (↑s39.len : Int)))
                (RunQ .sl P (Instr.loadAt T_sl_sl_uint8 (.pointer (some (Go.Addr.add a0 8)))) w38 fun (s40 : Sl) =>
                RunQ .addr P (Instr.indexAt T_sl_sl_uint8 s40.v (.int .i64 t37.fst)) w38 fun (a41 : Addr) =>
                RunQ .sl P (Instr.loadAt T_sl_uint8 (.pointer (some a41))) w38 fun (s42 : Sl) =>
                ifB (decide ((↑s42.len : Int) > 64))
                (R (.int .i64 2) w38)
                (next36 (some ((IntKind.i64.wrap (t37.fst + 1)), ())) w38))
                (R (.int .i64 0) w38)))
def an_ref07_DocCheck : Ann := ⟨[(16, []), (14, []), (9, [])], [(2, [(16, (.int .i64))]), (19, [(5, (.int .i64))])], []⟩
theorem e_ref07_DocCheck (R : Value → World → Prop) (x0 : Value) (w : World) : denF P an_ref07_DocCheck Try.f47 [x0] w R = S_ref07_DocCheck R x0 w := by kernel_rfl
theorem c_ref07_DocCheck {R : Value → World → Prop} {x0 : Value} {w : World} (h : S_ref07_DocCheck R x0 w) : CallP P F_ref07_DocCheck [x0] w R := calls_of_denF (an := an_ref07_DocCheck) Try.func47 (by rw [e_ref07_DocCheck]; exact h)


/-- penstock/penstocklaw07.BatchReads -/
def S_law07_BatchReads (R : Value → World → Prop) (x0 : Sl) (w : World) : Prop :=
 CallP P F_ref07_DocDecode [x0.v] w fun (v0 : Value) w1 =>
 TupP [.val, (.int .i64)] v0 fun (t2 : Value × Int × Unit) =>
  RunK .addr P (Instr.alloc T_api_Batch true (.tuple #[])) w1 fun (a3 : Addr) w4 =>
   StoreP P T_api_Batch (.pointer (some a3)) t2.1 w4 fun w5 =>
    CallP P F_law07_awake [] w5 fun (v6 : Value) w7 =>
     TyP .bool v6 fun (b8 : Bool) =>
      ifB (!b8)
       (R (.bool false) w7)
       (RunK .sl P (Instr.buildSlice T_sl_uint8 0 #[]) w7 fun (s9 : Sl) w10 =>
        RunK .sl P (Builtin.append_ #[T_sl_uint8, T_sl_uint8] T_sl_uint8 #[s9.v, x0.v]) w10 fun (s11 : Sl) w12 =>
         CallP P F_batch_Decode [s11.v] w12 fun (v13 : Value) w14 =>
          TupP [.val, (.int .i64)] v13 fun (t15 : Value × Int × Unit) =>
           RunK .addr P (Instr.alloc T_api_Batch true (.tuple #[])) w14 fun (a16 : Addr) w17 =>
            StoreP P T_api_Batch (.pointer (some a16)) t15.1 w17 fun w18 =>
             JoinP (T := Unit) (fun J19 =>
              ifB (t15.snd.fst != t2.snd.fst)
               (R (.bool false) w18)
               (RunQ .val P (Instr.loadAt T_api_Batch (.pointer (some a16))) w18 fun (v22 : Value) =>
                RunQ .val P (Instr.loadAt T_api_Batch (.pointer (some a3))) w18 fun (v23 : Value) =>
                CallP P F_ref07_Same [v22, v23] w18 fun (v24 : Value) w25 =>
                TyP .bool v24 fun (b26 : Bool) =>
                ifB (!b26)
                (R (.bool false) w25)
                (J19 (some ()) w25)))
              fun t20 w21 =>
              RunQ .sl P (Instr.loadAt T_sl_sl_uint8 (.pointer (some (Go.Addr.add a16 8)))) w21 fun (s27 : Sl) =>
               LoopP (T := Int × Unit) (some (0, ())) w21 fun next28 t29 w30 =>
                ifB (decide (t29.fst < (↑s27.len : Int)))
                (RunQ .addr P (Instr.indexAt T_sl_sl_uint8 s27.v (.int .i64 t29.fst)) w30 fun (a31 : Addr) =>
                RunQ .sl P (Instr.loadAt T_sl_uint8 (.pointer (some a31))) w30 fun (s32 : Sl) =>
                LoopP (T := Int × Unit) (some (0, ())) w30 fun next33 t34 w35 =>
                ifB (decide (t34.fst < (↑s32.len : Int)))
                (RunQ .addr P (Instr.indexAt T_sl_uint8 s32.v (.int .i64 t34.fst)) w35 fun (a36 : Addr) =>
                StoreP P T_uint8 (.pointer (some a36)) (.int .u8 1) w35 fun w37 =>
                next33 (some ((IntKind.i64.wrap (t34.fst + 1)), ())) w37)
                (next28 (some ((IntKind.i64.wrap (t29.fst + 1)), ())) w35))
                (CallP P F_ref03_Same [s11.v, x0.v] w30 fun (v38 : Value) w39 =>
                TyP .bool v38 fun (b40 : Bool) =>
                R (.bool b40) w39))
def an_law07_BatchReads : Ann := ⟨[(8, [])], [(12, [(44, (.int .i64))]), (9, [(38, (.int .i64))])], []⟩
theorem e_law07_BatchReads (R : Value → World → Prop) (x0 : Sl) (w : World) : denF P an_law07_BatchReads Try.f10 [x0.v] w R = S_law07_BatchReads R x0 w := by kernel_rfl
theorem c_law07_BatchReads {R : Value → World → Prop} {x0 : Sl} {w : World} (h : S_law07_BatchReads R x0 w) : CallP P F_law07_BatchReads [x0.v] w R := calls_of_denF (an := an_law07_BatchReads) Try.func10 (by rw [e_law07_BatchReads]; exact h)


/-- penstock/penstocklaw07.BatchBack -/
def S_law07_BatchBack (R : Value → World → Prop) (x0 : Value) (x1 : Sl) (w : World) : Prop :=
 RunK .addr P (Instr.box T_api_Batch x0) w fun (a0 : Addr) w1 =>
 CallP P F_law07_awake [] w1 fun (v2 : Value) w3 =>
  TyP .bool v2 fun (b4 : Bool) =>
   ifB (!b4)
    (R (.bool false) w3)
    (RunQ .val P (Instr.loadAt T_api_Batch (.pointer (some a0))) w3 fun (v5 : Value) =>
     CallP P F_ref07_Copy [v5] w3 fun (v6 : Value) w7 =>
      TyP .val v6 fun (v8 : Value) =>
       CallP P F_batch_Encode [v8] w7 fun (v9 : Value) w10 =>
        TupP [.sl, (.int .i64)] v9 fun (t11 : Sl × Int × Unit) =>
         JoinP (T := Unit) (fun J12 =>
          ifB (t11.snd.fst == 0)
           (CallP P F_batch_Decode [t11.fst.v] w10 fun (v15 : Value) w16 =>
            TupP [.val, (.int .i64)] v15 fun (t17 : Value × Int × Unit) =>
             RunK .addr P (Instr.alloc T_api_Batch true (.tuple #[])) w16 fun (a18 : Addr) w19 =>
              StoreP P T_api_Batch (.pointer (some a18)) t17.1 w19 fun w20 =>
               ifB (t17.snd.fst != 0)
                (R (.bool false) w20)
                (RunQ .val P (Instr.loadAt T_api_Batch (.pointer (some a18))) w20 fun (v21 : Value) =>
                RunQ .val P (Instr.loadAt T_api_Batch (.pointer (some a0))) w20 fun (v22 : Value) =>
                CallP P F_ref07_Same [v21, v22] w20 fun (v23 : Value) w24 =>
                TyP .bool v23 fun (b25 : Bool) =>
                ifB (!b25)
                (R (.bool false) w24)
                (J12 (some ()) w24)))
           (RunQ .val P (Instr.loadAt T_api_Batch (.pointer (some a0))) w10 fun (v26 : Value) =>
            CallP P F_ref07_Copy [v26] w10 fun (v27 : Value) w28 =>
             TyP .val v27 fun (v29 : Value) =>
              CallP P F_batch_Check [v29] w28 fun (v30 : Value) w31 =>
               TyP (.int .i64) v30 fun (n32 : Int) =>
                ifB (t11.snd.fst != n32)
                (R (.bool false) w31)
                (ifB ((↑t11.fst.len : Int) != 0)
                (R (.bool false) w31)
                (J12 (some ()) w31))))
          fun t13 w14 =>
          RunK .sl P (Instr.buildSlice T_sl_uint8 0 #[]) w14 fun (s33 : Sl) w34 =>
           RunK .sl P (Builtin.append_ #[T_sl_uint8, T_sl_uint8] T_sl_uint8 #[s33.v, x1.v]) w34 fun (s35 : Sl) w36 =>
            CallP P F_batch_Decode [s35.v] w36 fun (v37 : Value) w38 =>
             TupP [.val, (.int .i64)] v37 fun (t39 : Value × Int × Unit) =>
              RunK .addr P (Instr.alloc T_api_Batch true (.tuple #[])) w38 fun (a40 : Addr) w41 =>
               StoreP P T_api_Batch (.pointer (some a40)) t39.1 w41 fun w42 =>
                ifB (t39.snd.fst != 0)
                (RunQ .sl P (Instr.loadAt T_sl_sl_uint8 (.pointer (some (Go.Addr.add a40 8)))) w42 fun (s43 : Sl) =>
                R (.bool ((↑s43.len : Int) == 0)) w42)
                (RunQ .val P (Instr.loadAt T_api_Batch (.pointer (some a40))) w42 fun (v44 : Value) =>
                CallP P F_batch_Encode [v44] w42 fun (v45 : Value) w46 =>
                TupP [.sl, (.int .i64)] v45 fun (t47 : Sl × Int × Unit) =>
                ifB (t47.snd.fst == 0)
                (CallP P F_ref03_Same [t47.fst.v, x1.v] w46 fun (v48 : Value) w49 =>
                TyP .bool v48 fun (b50 : Bool) =>
                R (.bool b50) w49)
                (R (.bool false) w46)))
def an_law07_BatchBack : Ann := ⟨[(10, [])], [], []⟩
theorem e_law07_BatchBack (R : Value → World → Prop) (x0 : Value) (x1 : Sl) (w : World) : denF P an_law07_BatchBack Try.f11 [x0, x1.v] w R = S_law07_BatchBack R x0 x1 w := by kernel_rfl
theorem c_law07_BatchBack {R : Value → World → Prop} {x0 : Value} {x1 : Sl} {w : World} (h : S_law07_BatchBack R x0 x1 w) : CallP P F_law07_BatchBack [x0, x1.v] w R := calls_of_denF (an := an_law07_BatchBack) Try.func11 (by rw [e_law07_BatchBack]; exact h)


/-- penstock/penstocklaw07.BatchCut -/
def S_law07_BatchCut (R : Value → World → Prop) (x0 : Value) (x1 : Int) (x2 : Sl) (w : World) : Prop :=
 RunK .addr P (Instr.box T_api_Batch x0) w fun (a0 : Addr) w1 =>
 RunQ .val P (Instr.loadAt T_api_Batch (.pointer (some a0))) w1 fun (v2 : Value) =>
  CallP P F_ref07_Copy [v2] w1 fun (v3 : Value) w4 =>
   TyP .val v3 fun (v5 : Value) =>
    CallP P F_batch_Encode [v5] w4 fun (v6 : Value) w7 =>
     TupP [.sl, (.int .i64)] v6 fun (t8 : Sl × Int × Unit) =>
      JoinP (T := Unit) (fun J9 =>
       CallP P F_law07_awake [] w7 fun (v12 : Value) w13 =>
        TyP .bool v12 fun (b14 : Bool) =>
         ifB (!b14)
          (CallP P F_law07_awake [] w13 fun (v15 : Value) w16 =>
           TyP .bool v15 fun (b17 : Bool) =>
            R (.bool b17) w16)
          (ifB (t8.snd.fst != 0)
           (CallP P F_law07_awake [] w13 fun (v18 : Value) w19 =>
            TyP .bool v18 fun (b20 : Bool) =>
             R (.bool b20) w19)
           (ifB ((↑t8.fst.len : Int) == 0)
            (CallP P F_law07_awake [] w13 fun (v21 : Value) w22 =>
             TyP .bool v21 fun (b23 : Bool) =>
              R (.bool b23) w22)
            (J9 (some ()) w13))))
       fun t10 w11 =>
       RunK .sl P (Instr.buildSlice T_sl_uint8 0 #[]) w11 fun (s24 : Sl) w25 =>
        RunK (.int .i64) P (do (eqGuard .rem T_int (.tmp 0) (.tmp 0) (.int .i64 (IntKind.i64.wrap x1)) (.int .i64 ((↑t8.fst.len : Int)))); (binOp .rem T_int (.int .i64 (IntKind.i64.wrap x1)) (.int .i64 ((↑t8.fst.len : Int))))) w25 fun (n26 : Int) w27 =>
         RunQ .sl P (Instr.sliceAt T_sl_uint8 t8.fst.v none (some (.int .i64 n26)) none) w27 fun (s28 : Sl) =>
          RunK .sl P (Builtin.append_ #[T_sl_uint8, T_sl_uint8] T_sl_uint8 #[s24.v, s28.v]) w27 fun (s29 : Sl) w30 =>
           CallP P F_batch_Decode [s29.v] w30 fun (v31 : Value) w32 =>
            TupP [.val, (.int .i64)] v31 fun (t33 : Value × Int × Unit) =>
             RunK .addr P (Instr.alloc T_api_Batch true (.tuple #[])) w32 fun (a34 : Addr) w35 =>
              StoreP P T_api_Batch (.pointer (some a34)) t33.1 w35 fun w36 =>
               RunK .sl P (Instr.buildSlice T_sl_uint8 0 #[]) w36 fun (s37 : Sl) w38 =>
                RunK .sl P (Builtin.append_ #[T_sl_uint8, T_sl_uint8] T_sl_uint8 #[s37.v, t8.fst.v]) w38 fun (s39 : Sl) w40 =>
                RunK .sl P (Builtin.append_ #[T_sl_uint8, T_sl_uint8] T_sl_uint8 #[s39.v, x2.v]) w40 fun (s41 : Sl) w42 =>
                CallP P F_batch_Decode [s41.v] w42 fun (v43 : Value) w44 =>
                TupP [.val, (.int .i64)] v43 fun (t45 : Value × Int × Unit) =>
                RunK .addr P (Instr.alloc T_api_Batch true (.tuple #[])) w44 fun (a46 : Addr) w47 =>
                StoreP P T_api_Batch (.pointer (some a46)) t45.1 w47 fun w48 =>
                ifB (t33.snd.fst == 6)
                (R (.bool ((t45.snd.fst == 0) == ((↑x2.len : Int) == 0))) w48)
                (R (.bool false) w48)
def an_law07_BatchCut : Ann := ⟨[(4, [])], [], []⟩
theorem e_law07_BatchCut (R : Value → World → Prop) (x0 : Value) (x1 : Int) (x2 : Sl) (w : World) : denF P an_law07_BatchCut Try.f12 [x0, .int .u16 x1, x2.v] w R = S_law07_BatchCut R x0 x1 x2 w := by kernel_rfl
theorem c_law07_BatchCut {R : Value → World → Prop} {x0 : Value} {x1 : Int} {x2 : Sl} {w : World} (h : S_law07_BatchCut R x0 x1 x2 w) : CallP P F_law07_BatchCut [x0, .int .u16 x1, x2.v] w R := calls_of_denF (an := an_law07_BatchCut) Try.func12 (by rw [e_law07_BatchCut]; exact h)


/-- penstock/penstocklaw07.BatchApart -/
def S_law07_BatchApart (R : Value → World → Prop) (x0 : Value) (x1 : Value) (w : World) : Prop :=
 RunK .addr P (Instr.box T_api_Batch x0) w fun (a0 : Addr) w1 =>
 RunK .addr P (Instr.box T_api_Batch x1) w1 fun (a2 : Addr) w3 =>
  RunQ .val P (Instr.loadAt T_api_Batch (.pointer (some a0))) w3 fun (v4 : Value) =>
   CallP P F_ref07_Copy [v4] w3 fun (v5 : Value) w6 =>
    TyP .val v5 fun (v7 : Value) =>
     CallP P F_batch_Encode [v7] w6 fun (v8 : Value) w9 =>
      TupP [.sl, (.int .i64)] v8 fun (t10 : Sl × Int × Unit) =>
       RunQ .val P (Instr.loadAt T_api_Batch (.pointer (some a2))) w9 fun (v11 : Value) =>
        CallP P F_ref07_Copy [v11] w9 fun (v12 : Value) w13 =>
         TyP .val v12 fun (v14 : Value) =>
          CallP P F_batch_Encode [v14] w13 fun (v15 : Value) w16 =>
           TupP [.sl, (.int .i64)] v15 fun (t17 : Sl × Int × Unit) =>
            ∃ S18 : World → Prop, (S18 w16.drew) ∧
              CallP P F_law07_awake [] w16.drew fun (v19 : Value) w20 =>
               TyP .bool v19 fun (b21 : Bool) =>
                (S18 w20) ∧
                ifB b21
                (ifB (t10.snd.fst != 0)
                (R (.bool true) w20)
                (ifB (t17.snd.fst != 0)
                (R (.bool true) w20)
                (HRun S18 .val P (Instr.loadAt T_api_Batch (.pointer (some a0))) fun (v22 : Value) =>
                HRun S18 .val P (Instr.loadAt T_api_Batch (.pointer (some a2))) fun (v23 : Value) =>
                CallP P F_ref03_Same [t10.fst.v, t17.fst.v] w20 fun (v24 : Value) w25 =>
                TyP .bool v24 fun (b26 : Bool) =>
                (S18 w25) ∧
                CallP P F_ref07_Same [v22, v23] w25 fun (v27 : Value) w28 =>
                TyP .bool v27 fun (b29 : Bool) =>
                (S18 w28) ∧
                R (.bool (b26 == b29)) w28)))
                (R (.bool false) w20)
def an_law07_BatchApart : Ann := ⟨[], [], []⟩
theorem e_law07_BatchApart (R : Value → World → Prop) (x0 : Value) (x1 : Value) (w : World) : denF P an_law07_BatchApart Try.f13 [x0, x1] w R = S_law07_BatchApart R x0 x1 w := by kernel_rfl
theorem c_law07_BatchApart {R : Value → World → Prop} {x0 : Value} {x1 : Value} {w : World} (h : S_law07_BatchApart R x0 x1 w) : CallP P F_law07_BatchApart [x0, x1] w R := calls_of_denF (an := an_law07_BatchApart) Try.func13 (by rw [e_law07_BatchApart]; exact h)


/-- penstock/penstocklaw07.BatchChecks -/
def S_law07_BatchChecks (R : Value → World → Prop) (x0 : Value) (w : World) : Prop :=
 RunK .addr P (Instr.box T_api_Batch x0) w fun (a0 : Addr) w1 =>
 RunQ .val P (Instr.loadAt T_api_Batch (.pointer (some a0))) w1 fun (v2 : Value) =>
  CallP P F_ref07_DocEncode [v2] w1 fun (v3 : Value) w4 =>
   TupP [.sl, (.int .i64)] v3 fun (t5 : Sl × Int × Unit) =>
    CallP P F_law07_awake [] w4 fun (v6 : Value) w7 =>
     TyP .bool v6 fun (b8 : Bool) =>
      ifB (!b8)
       (R (.bool false) w7)
       (RunQ .val P (Instr.loadAt T_api_Batch (.pointer (some a0))) w7 fun (v9 : Value) =>
        CallP P F_ref07_Copy [v9] w7 fun (v10 : Value) w11 =>
         TyP .val v10 fun (v12 : Value) =>
          RunK .addr P (Instr.alloc T_api_Batch true (.tuple #[])) w11 fun (a13 : Addr) w14 =>
           StoreP P T_api_Batch (.pointer (some a13)) v12 w14 fun w15 =>
            RunQ .val P (Instr.loadAt T_api_Batch (.pointer (some a13))) w15 fun (v16 : Value) =>
             CallP P F_batch_Encode [v16] w15 fun (v17 : Value) w18 =>
              TupP [.sl, (.int .i64)] v17 fun (t19 : Sl × Int × Unit) =>
               ∃ S20 : World → Prop, (S20 w18.drew) ∧
                HRun S20 .val P (Instr.loadAt T_api_Batch (.pointer (some a13))) fun (v21 : Value) =>
                HRun S20 .val P (Instr.loadAt T_api_Batch (.pointer (some a0))) fun (v22 : Value) =>
                CallP P F_batch_Size [v21] w18.drew fun (v23 : Value) w24 =>
                TyP (.int .i64) v23 fun (n25 : Int) =>
                (S20 w24) ∧
                CallP P F_ref07_Size [v22] w24 fun (v26 : Value) w27 =>
                TyP (.int .i64) v26 fun (n28 : Int) =>
                (S20 w27) ∧
                ifB (n25 == n28)
                (HRun S20 .val P (Instr.loadAt T_api_Batch (.pointer (some a13))) fun (v29 : Value) =>
                HRun S20 .val P (Instr.loadAt T_api_Batch (.pointer (some a0))) fun (v30 : Value) =>
                CallP P F_batch_Check [v29] w27 fun (v31 : Value) w32 =>
                TyP (.int .i64) v31 fun (n33 : Int) =>
                (S20 w32) ∧
                CallP P F_ref07_DocCheck [v30] w32 fun (v34 : Value) w35 =>
                TyP (.int .i64) v34 fun (n36 : Int) =>
                (S20 w35) ∧
                ifB (n33 == n36)
                (ifB (t19.snd.fst == t5.snd.fst)
                (CallP P F_ref03_Same [t19.fst.v, t5.fst.v] w35 fun (v37 : Value) w38 =>
                TyP .bool v37 fun (b39 : Bool) =>
                (S20 w38) ∧
                ifB b39
                (HRun S20 .val P (Instr.loadAt T_api_Batch (.pointer (some a13))) fun (v40 : Value) =>
                HRun S20 .val P (Instr.loadAt T_api_Batch (.pointer (some a0))) fun (v41 : Value) =>
                CallP P F_ref07_Same [v40, v41] w38 fun (v42 : Value) w43 =>
                TyP .bool v42 fun (b44 : Bool) =>
                (S20 w43) ∧
                R (.bool b44) w43)
                (R (.bool false) w38))
                (R (.bool false) w35))
                (R (.bool false) w35))
                (R (.bool false) w27))
def an_law07_BatchChecks : Ann := ⟨[], [], []⟩
theorem e_law07_BatchChecks (R : Value → World → Prop) (x0 : Value) (w : World) : denF P an_law07_BatchChecks Try.f14 [x0] w R = S_law07_BatchChecks R x0 w := by kernel_rfl
theorem c_law07_BatchChecks {R : Value → World → Prop} {x0 : Value} {w : World} (h : S_law07_BatchChecks R x0 w) : CallP P F_law07_BatchChecks [x0] w R := calls_of_denF (an := an_law07_BatchChecks) Try.func14 (by rw [e_law07_BatchChecks]; exact h)


/-- penstock/penstocklaw07.BatchMarks -/
def S_law07_BatchMarks (R : Value → World → Prop) (x0 : Int) (x1 : Int) (x2 : Int) (x3 : Int) (x4 : Bool) (w : World) : Prop :=
 RunK .addr P (Instr.alloc T_api_Batch true (.tuple #[])) w fun (a0 : Addr) w1 =>
 StoreP P T_api_Batch (.pointer (some a0)) (.agg #[(.int .i64 (IntKind.i64.wrap x0)), (.int .i64 (IntKind.i64.wrap x1)), (.int .u64 x2), (.int .i64 x3), (.int .i64 0), (.bool true), (.bool true), (.bool x4), (.slice none 0 0)]) w1 fun w2 =>
  JoinP (T := Bool × Unit) (fun J3 =>
   ifB (decide (x3 ≥ 0))
    (ifB (decide (x3 ≤ 1000))
     (J3 (some ((decide (x2 ≤ 1000)), ())) w2)
     (J3 (some (false, ())) w2))
    (J3 (some (false, ())) w2))
   fun t4 w5 =>
   JoinP (T := Unit) (fun J6 =>
    CallP P F_law07_awake [] w5 fun (v9 : Value) w10 =>
     TyP .bool v9 fun (b11 : Bool) =>
      ifB (!b11)
       (R (.bool false) w10)
       (RunQ .val P (Instr.loadAt T_api_Batch (.pointer (some a0))) w10 fun (v12 : Value) =>
        CallP P F_batch_Size [v12] w10 fun (v13 : Value) w14 =>
         TyP (.int .i64) v13 fun (n15 : Int) =>
          ifB (n15 != 1)
           (R (.bool false) w14)
           (J6 (some ()) w14)))
    fun t7 w8 =>
    ifB (!t4.fst)
     (RunQ .val P (Instr.loadAt T_api_Batch (.pointer (some a0))) w8 fun (v16 : Value) =>
      CallP P F_batch_Check [v16] w8 fun (v17 : Value) w18 =>
       TyP (.int .i64) v17 fun (n19 : Int) =>
        R (.bool (n19 == 1)) w18)
     (JoinP (T := Addr × Addr × Addr × Unit) (fun J20 =>
      ∃ S23 : World → Prop, (S23 w8.drew) ∧
        HRun S23 .val P (Instr.loadAt T_api_Batch (.pointer (some a0))) fun (v24 : Value) =>
         HRun S23 .val P (Instr.loadAt T_api_Batch (.pointer (some a0))) fun (v25 : Value) =>
          HRun S23 .val P (Instr.loadAt T_api_Batch (.pointer (some a0))) fun (v26 : Value) =>
           (RunK .addr P (Instr.alloc T_api_Batch true (.tuple #[])) w8.drew fun (a27 : Addr) w28 =>
             (S23 w28) ∧
              (RunK .addr P (Instr.alloc T_api_Batch true (.tuple #[])) w28 fun (a29 : Addr) w30 =>
                (S23 w30) ∧
                RunK .addr P (Instr.alloc T_api_Batch true (.tuple #[])) w30 fun (a31 : Addr) w32 =>
                (S23 w32) ∧
                StoreP P T_api_Batch (.pointer (some a27)) v24 w32 fun w33 =>
                (S23 w33) ∧
                StoreP P T_api_Batch (.pointer (some a29)) v25 w33 fun w34 =>
                (S23 w34) ∧
                StoreP P T_api_Batch (.pointer (some a31)) v26 w34 fun w35 =>
                (S23 w35) ∧
                J20 (some (a27, (a29, (a31, ())))) w35) ∧
               (RunK .addr P (Instr.alloc T_api_Batch true (.tuple #[])) w28 fun (a36 : Addr) w37 =>
                (S23 w37) ∧
                RunK .addr P (Instr.alloc T_api_Batch true (.tuple #[])) w37 fun (a38 : Addr) w39 =>
                (S23 w39) ∧
                StoreP P T_api_Batch (.pointer (some a27)) v24 w39 fun w40 =>
                (S23 w40) ∧
                StoreP P T_api_Batch (.pointer (some a38)) v25 w40 fun w41 =>
                (S23 w41) ∧
                StoreP P T_api_Batch (.pointer (some a36)) v26 w41 fun w42 =>
                (S23 w42) ∧
                J20 (some (a27, (a38, (a36, ())))) w42) ∧
                True) ∧
            (RunK .addr P (Instr.alloc T_api_Batch true (.tuple #[])) w8.drew fun (a43 : Addr) w44 =>
              (S23 w44) ∧
               (RunK .addr P (Instr.alloc T_api_Batch true (.tuple #[])) w44 fun (a45 : Addr) w46 =>
                (S23 w46) ∧
                RunK .addr P (Instr.alloc T_api_Batch true (.tuple #[])) w46 fun (a47 : Addr) w48 =>
                (S23 w48) ∧
                StoreP P T_api_Batch (.pointer (some a45)) v24 w48 fun w49 =>
                (S23 w49) ∧
                StoreP P T_api_Batch (.pointer (some a43)) v25 w49 fun w50 =>
                (S23 w50) ∧
                StoreP P T_api_Batch (.pointer (some a47)) v26 w50 fun w51 =>
                (S23 w51) ∧
                J20 (some (a45, (a43, (a47, ())))) w51) ∧
                (RunK .addr P (Instr.alloc T_api_Batch true (.tuple #[])) w44 fun (a52 : Addr) w53 =>
                (S23 w53) ∧
                RunK .addr P (Instr.alloc T_api_Batch true (.tuple #[])) w53 fun (a54 : Addr) w55 =>
                (S23 w55) ∧
                StoreP P T_api_Batch (.pointer (some a54)) v24 w55 fun w56 =>
                (S23 w56) ∧
                StoreP P T_api_Batch (.pointer (some a43)) v25 w56 fun w57 =>
                (S23 w57) ∧
                StoreP P T_api_Batch (.pointer (some a52)) v26 w57 fun w58 =>
                (S23 w58) ∧
                J20 (some (a54, (a43, (a52, ())))) w58) ∧
                True) ∧
             (RunK .addr P (Instr.alloc T_api_Batch true (.tuple #[])) w8.drew fun (a59 : Addr) w60 =>
               (S23 w60) ∧
                (RunK .addr P (Instr.alloc T_api_Batch true (.tuple #[])) w60 fun (a61 : Addr) w62 =>
                (S23 w62) ∧
                RunK .addr P (Instr.alloc T_api_Batch true (.tuple #[])) w62 fun (a63 : Addr) w64 =>
                (S23 w64) ∧
                StoreP P T_api_Batch (.pointer (some a61)) v24 w64 fun w65 =>
                (S23 w65) ∧
                StoreP P T_api_Batch (.pointer (some a63)) v25 w65 fun w66 =>
                (S23 w66) ∧
                StoreP P T_api_Batch (.pointer (some a59)) v26 w66 fun w67 =>
                (S23 w67) ∧
                J20 (some (a61, (a63, (a59, ())))) w67) ∧
                (RunK .addr P (Instr.alloc T_api_Batch true (.tuple #[])) w60 fun (a68 : Addr) w69 =>
                (S23 w69) ∧
                RunK .addr P (Instr.alloc T_api_Batch true (.tuple #[])) w69 fun (a70 : Addr) w71 =>
                (S23 w71) ∧
                StoreP P T_api_Batch (.pointer (some a70)) v24 w71 fun w72 =>
                (S23 w72) ∧
                StoreP P T_api_Batch (.pointer (some a68)) v25 w72 fun w73 =>
                (S23 w73) ∧
                StoreP P T_api_Batch (.pointer (some a59)) v26 w73 fun w74 =>
                (S23 w74) ∧
                J20 (some (a70, (a68, (a59, ())))) w74) ∧
                True) ∧
              True)
      fun t21 w22 =>
      StoreP P T_bool (.pointer (some (Go.Addr.add t21.fst 5))) (.bool false) w22 fun w75 =>
       RunK .sl P (Instr.buildSlice T_sl_sl_uint8 1 #[(0, (.slice none 0 0))]) w75 fun (s76 : Sl) w77 =>
        StoreP P T_sl_sl_uint8 (.pointer (some (Go.Addr.add t21.snd.fst 8))) s76.v w77 fun w78 =>
         StoreP P T_int (.pointer (some (Go.Addr.add t21.snd.snd.fst 4))) (.int .i64 1) w78 fun w79 =>
          RunQ .val P (Instr.loadAt T_api_Batch (.pointer (some a0))) w79 fun (v80 : Value) =>
           CallP P F_batch_Check [v80] w79 fun (v81 : Value) w82 =>
            TyP (.int .i64) v81 fun (n83 : Int) =>
             ifB ((n83 == 0) == decide (x2 > 0))
              (RunQ .val P (Instr.loadAt T_api_Batch (.pointer (some t21.fst))) w82 fun (v84 : Value) =>
               CallP P F_batch_Check [v84] w82 fun (v85 : Value) w86 =>
                TyP (.int .i64) v85 fun (n87 : Int) =>
                ifB (n87 == 7)
                (RunQ .val P (Instr.loadAt T_api_Batch (.pointer (some t21.snd.fst))) w86 fun (v88 : Value) =>
                CallP P F_batch_Check [v88] w86 fun (v89 : Value) w90 =>
                TyP (.int .i64) v89 fun (n91 : Int) =>
                ifB (n91 == 7)
                (RunQ .val P (Instr.loadAt T_api_Batch (.pointer (some t21.snd.snd.fst))) w90 fun (v92 : Value) =>
                CallP P F_batch_Check [v92] w90 fun (v93 : Value) w94 =>
                TyP (.int .i64) v93 fun (n95 : Int) =>
                R (.bool (n95 == 7)) w94)
                (R (.bool false) w90))
                (R (.bool false) w86))
              (R (.bool false) w82))
def an_law07_BatchMarks : Ann := ⟨[(8, [(13, .addr), (14, .addr), (15, .addr)]), (5, []), (3, [(12, .bool)])], [], []⟩
theorem e_law07_BatchMarks (R : Value → World → Prop) (x0 : Int) (x1 : Int) (x2 : Int) (x3 : Int) (x4 : Bool) (w : World) : denF P an_law07_BatchMarks Try.f15 [.int .u16 x0, .int .u16 x1, .int .u64 x2, .int .i64 x3, .bool x4] w R = S_law07_BatchMarks R x0 x1 x2 x3 x4 w := by kernel_rfl
theorem c_law07_BatchMarks {R : Value → World → Prop} {x0 : Int} {x1 : Int} {x2 : Int} {x3 : Int} {x4 : Bool} {w : World} (h : S_law07_BatchMarks R x0 x1 x2 x3 x4 w) : CallP P F_law07_BatchMarks [.int .u16 x0, .int .u16 x1, .int .u64 x2, .int .i64 x3, .bool x4] w R := calls_of_denF (an := an_law07_BatchMarks) Try.func15 (by rw [e_law07_BatchMarks]; exact h)

end Go.Proofs.Ytcfgbboibgjlcaa
