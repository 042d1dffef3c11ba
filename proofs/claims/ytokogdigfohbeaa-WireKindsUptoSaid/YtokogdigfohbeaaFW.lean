/- The functions of the program as predicates over worlds, written by a program of mine (PkPrint); each is held against the code by the kernel. -/
import Derived.Test.YtokogdigfohbeaaN
namespace Go.Proofs.Ytokogdigfohbeaa
open Go Go.Pk
/-- penstock/penstockref17.DocEncode -/
def S_ref17_DocEncode (R : Value → World → Prop) (x0 : Value) (w : World) : Prop :=
 RunK .addr P (Instr.box T_api_Msg x0) w fun (a0 : Addr) w1 =>
 JoinP (T := Unit) (fun J2 =>
  RunQ (.int .i64) P (Instr.loadAt T_int (.pointer (some (Go.Addr.add a0 0)))) w1 fun (n5 : Int) =>
   ifB (decide (n5 < 1))
    (R (.tuple #[(.slice none 0 0), (.int .i64 1)]) w1)
    (RunQ (.int .i64) P (Instr.loadAt T_int (.pointer (some (Go.Addr.add a0 0)))) w1 fun (n6 : Int) =>
     ifB (decide (n6 > 15))
      (R (.tuple #[(.slice none 0 0), (.int .i64 1)]) w1)
      (J2 (some ()) w1)))
  fun t3 w4 =>
  RunK .addr P (Instr.box T_penstockref17_Laid (.agg #[(.slice none 0 0), (.int .i64 0), (.int .i64 0)])) w4 fun (a7 : Addr) w8 =>
   RunQ (.int .i64) P (Instr.loadAt T_int (.pointer (some (Go.Addr.add a0 0)))) w8 fun (n9 : Int) =>
    RunQ (.int .i64) P (Instr.loadAt T_int (.pointer (some (Go.Addr.add a0 1)))) w8 fun (n10 : Int) =>
     RunQ (.int .i64) P (Instr.loadAt T_int (.pointer (some (Go.Addr.add a0 2)))) w8 fun (n11 : Int) =>
      RunQ (.int .i64) P (Instr.loadAt T_int (.pointer (some (Go.Addr.add a0 3)))) w8 fun (n12 : Int) =>
       RunQ (.int .i64) P (Instr.loadAt T_api_Errno (.pointer (some (Go.Addr.add a0 4)))) w8 fun (n13 : Int) =>
        RunK .sl P (Instr.buildSlice T_sl_int 5 #[(0, (.int .i64 n9)), (1, (.int .i64 n10)), (2, (.int .i64 n11)), (3, (.int .i64 n12)), (4, (.int .i64 n13))]) w8 fun (s14 : Sl) w15 =>
         CallP P F_ref17_Laid_ints [(.pointer (some a7)), s14.v] w15 fun (v16 : Value) w17 =>
          TupP [] v16 fun (t18 : Unit) =>
           JoinP (T := Unit) (fun J19 =>
            RunQ (.int .i64) P (Instr.loadAt T_int (.pointer (some (Go.Addr.add a0 0)))) w17 fun (n22 : Int) =>
             ifB (n22 == 1)
              (RunQ .val P (Instr.loadAt T_api_RMsg (.pointer (some (Go.Addr.add a0 5)))) w17 fun (v23 : Value) =>
               RunK .addr P (Instr.alloc T_api_RMsg true (.tuple #[])) w17 fun (a24 : Addr) w25 =>
                StoreP P T_api_RMsg (.pointer (some a24)) v23 w25 fun w26 =>
                RunQ (.int .i64) P (Instr.loadAt T_int (.pointer (some (Go.Addr.add a24 0)))) w26 fun (n27 : Int) =>
                RunQ (.int .i64) P (Instr.loadAt T_int (.pointer (some (Go.Addr.add a24 1)))) w26 fun (n28 : Int) =>
                RunQ (.int .i64) P (Instr.loadAt T_int (.pointer (some (Go.Addr.add a24 2)))) w26 fun (n29 : Int) =>
                RunQ (.int .i64) P (Instr.loadAt T_int (.pointer (some (Go.Addr.add a24 3)))) w26 fun (n30 : Int) =>
                RunQ (.int .i64) P (Instr.loadAt T_int (.pointer (some (Go.Addr.add a24 4)))) w26 fun (n31 : Int) =>
                RunQ (.int .i64) P (Instr.loadAt T_int (.pointer (some (Go.Addr.add a24 5)))) w26 fun (n32 : Int) =>
                RunQ (.int .i64) P (Instr.loadAt T_int (.pointer (some (Go.Addr.add a24 6)))) w26 fun (n33 : Int) =>
                RunK .sl P (Instr.buildSlice T_sl_int 7 #[(0, (.int .i64 n27)), (1, (.int .i64 n28)), (2, (.int .i64 n29)), (3, (.int .i64 n30)), (4, (.int .i64 n31)), (5, (.int .i64 n32)), (6, (.int .i64 n33))]) w26 fun (s34 : Sl) w35 =>
                CallP P F_ref17_Laid_ints [(.pointer (some a7)), s34.v] w35 fun (v36 : Value) w37 =>
                TupP [] v36 fun (t38 : Unit) =>
                JoinP (T := Unit) (fun J39 =>
                ∃ S42 : World → Prop, (S42 w37.drew) ∧
                HRun S42 .bool P (Instr.loadAt T_bool (.pointer (some (Go.Addr.add a24 7)))) fun (b43 : Bool) =>
                (RunQ .sl P (Instr.loadAt T_sl_uint8 (.pointer (some (Go.Addr.add a7 0)))) w37.drew fun (s44 : Sl) =>
                (S42 w37.drew) ∧
                CallP P F_ref03_Flag [(.bool b43)] w37.drew fun (v45 : Value) w46 =>
                TyP .sl v45 fun (s47 : Sl) =>
                (S42 w46) ∧
                RunK .sl P (Builtin.append_ #[T_sl_uint8, T_sl_uint8] T_sl_uint8 #[s44.v, s47.v]) w46 fun (s48 : Sl) w49 =>
                (S42 w49) ∧
                StoreP P T_sl_uint8 (.pointer (some (Go.Addr.add a7 0))) s48.v w49 fun w50 =>
                (S42 w50) ∧
                J39 (some ()) w50) ∧
                (CallP P F_ref03_Flag [(.bool b43)] w37.drew fun (v51 : Value) w52 =>
                TyP .sl v51 fun (s53 : Sl) =>
                (S42 w52) ∧
                RunQ .sl P (Instr.loadAt T_sl_uint8 (.pointer (some (Go.Addr.add a7 0)))) w52 fun (s54 : Sl) =>
                (S42 w52) ∧
                RunK .sl P (Builtin.append_ #[T_sl_uint8, T_sl_uint8] T_sl_uint8 #[s54.v, s53.v]) w52 fun (s55 : Sl) w56 =>
                (S42 w56) ∧
                StoreP P T_sl_uint8 (.pointer (some (Go.Addr.add a7 0))) s55.v w56 fun w57 =>
                (S42 w57) ∧
                J39 (some ()) w57) ∧
                True)
                fun t40 w41 =>
                RunQ .sl P (Instr.loadAt T_sl_api_Entry (.pointer (some (Go.Addr.add a24 8)))) w41 fun (s58 : Sl) =>
                CallP P F_ref17_Laid_count [(.pointer (some a7)), (.int .i64 ((↑s58.len : Int)))] w41 fun (v59 : Value) w60 =>
                TupP [] v59 fun (t61 : Unit) =>
                LoopP (T := Int × Unit) (some (0, ())) w60 fun next62 t63 w64 =>
                RunQ .sl P (Instr.loadAt T_sl_api_Entry (.pointer (some (Go.Addr.add a24 8)))) w64 fun (s65 : Sl) =>
                ifB (decide (t63.fst < (↑s65.len : Int)))
                (RunQ .sl P (Instr.loadAt T_sl_api_Entry (.pointer (some (Go.Addr.add a24 8)))) w64 fun (s66 : Sl) =>
                RunQ .addr P (Instr.indexAt T_sl_api_Entry s66.v (.int .i64 t63.fst)) w64 fun (a67 : Addr) =>
                RunQ (.int .i64) P (Instr.loadAt T_int (.pointer (some (Go.Addr.add a67 0)))) w64 fun (n68 : Int) =>
                RunK .sl P (Instr.buildSlice T_sl_int 1 #[(0, (.int .i64 n68))]) w64 fun (s69 : Sl) w70 =>
                CallP P F_ref17_Laid_ints [(.pointer (some a7)), s69.v] w70 fun (v71 : Value) w72 =>
                TupP [] v71 fun (t73 : Unit) =>
                RunQ .sl P (Instr.loadAt T_sl_api_Entry (.pointer (some (Go.Addr.add a24 8)))) w72 fun (s74 : Sl) =>
                RunQ .addr P (Instr.indexAt T_sl_api_Entry s74.v (.int .i64 t63.fst)) w72 fun (a75 : Addr) =>
                RunQ .sl P (Instr.loadAt T_sl_uint8 (.pointer (some (Go.Addr.add a75 1)))) w72 fun (s76 : Sl) =>
                CallP P F_ref17_Laid_bytes [(.pointer (some a7)), s76.v] w72 fun (v77 : Value) w78 =>
                TupP [] v77 fun (t79 : Unit) =>
                next62 (some ((IntKind.i64.wrap (t63.fst + 1)), ())) w78)
                (RunQ .sl P (Instr.loadAt T_sl_uint8 (.pointer (some (Go.Addr.add a24 9)))) w64 fun (s80 : Sl) =>
                CallP P F_ref17_Laid_bytes [(.pointer (some a7)), s80.v] w64 fun (v81 : Value) w82 =>
                TupP [] v81 fun (t83 : Unit) =>
                J19 (some ()) w82))
              (ifB (n22 == 2)
               (RunQ (.int .i64) P (Instr.loadAt T_int (.pointer (some ((Go.Addr.add a0 15).add 0)))) w17 fun (n84 : Int) =>
                RunQ (.int .i64) P (Instr.loadAt T_int (.pointer (some ((Go.Addr.add a0 15).add 1)))) w17 fun (n85 : Int) =>
                RunQ (.int .i64) P (Instr.loadAt T_int (.pointer (some ((Go.Addr.add a0 15).add 2)))) w17 fun (n86 : Int) =>
                RunQ (.int .i64) P (Instr.loadAt T_int (.pointer (some ((Go.Addr.add a0 15).add 3)))) w17 fun (n87 : Int) =>
                RunQ (.int .i64) P (Instr.loadAt T_int (.pointer (some ((Go.Addr.add a0 15).add 4)))) w17 fun (n88 : Int) =>
                RunK .sl P (Instr.buildSlice T_sl_int 5 #[(0, (.int .i64 n84)), (1, (.int .i64 n85)), (2, (.int .i64 n86)), (3, (.int .i64 n87)), (4, (.int .i64 n88))]) w17 fun (s89 : Sl) w90 =>
                CallP P F_ref17_Laid_ints [(.pointer (some a7)), s89.v] w90 fun (v91 : Value) w92 =>
                TupP [] v91 fun (t93 : Unit) =>
                J19 (some ()) w92)
               (ifB (n22 == 3)
                (RunQ .val P (Instr.loadAt T_api_FetchReply (.pointer (some (Go.Addr.add a0 20)))) w17 fun (v94 : Value) =>
                RunK .addr P (Instr.alloc T_api_FetchReply true (.tuple #[])) w17 fun (a95 : Addr) w96 =>
                StoreP P T_api_FetchReply (.pointer (some a95)) v94 w96 fun w97 =>
                RunQ (.int .i64) P (Instr.loadAt T_int (.pointer (some (Go.Addr.add a95 0)))) w97 fun (n98 : Int) =>
                RunQ (.int .i64) P (Instr.loadAt T_int (.pointer (some (Go.Addr.add a95 1)))) w97 fun (n99 : Int) =>
                RunQ (.int .i64) P (Instr.loadAt T_api_Errno (.pointer (some (Go.Addr.add a95 2)))) w97 fun (n100 : Int) =>
                RunQ (.int .i64) P (Instr.loadAt T_int (.pointer (some (Go.Addr.add a95 3)))) w97 fun (n101 : Int) =>
                RunQ (.int .i64) P (Instr.loadAt T_int (.pointer (some (Go.Addr.add a95 5)))) w97 fun (n102 : Int) =>
                RunQ (.int .i64) P (Instr.loadAt T_int (.pointer (some (Go.Addr.add a95 6)))) w97 fun (n103 : Int) =>
                RunQ (.int .i64) P (Instr.loadAt T_int (.pointer (some (Go.Addr.add a95 7)))) w97 fun (n104 : Int) =>
                RunQ (.int .i64) P (Instr.loadAt T_int (.pointer (some (Go.Addr.add a95 8)))) w97 fun (n105 : Int) =>
                RunK .sl P (Instr.buildSlice T_sl_int 8 #[(0, (.int .i64 n98)), (1, (.int .i64 n99)), (2, (.int .i64 n100)), (3, (.int .i64 n101)), (4, (.int .i64 n102)), (5, (.int .i64 n103)), (6, (.int .i64 n104)), (7, (.int .i64 n105))]) w97 fun (s106 : Sl) w107 =>
                CallP P F_ref17_Laid_ints [(.pointer (some a7)), s106.v] w107 fun (v108 : Value) w109 =>
                TupP [] v108 fun (t110 : Unit) =>
                JoinP (T := Unit) (fun J111 =>
                ∃ S114 : World → Prop, (S114 w109.drew) ∧
                HRun S114 .bool P (Instr.loadAt T_bool (.pointer (some (Go.Addr.add a95 4)))) fun (b115 : Bool) =>
                (RunQ .sl P (Instr.loadAt T_sl_uint8 (.pointer (some (Go.Addr.add a7 0)))) w109.drew fun (s116 : Sl) =>
                (S114 w109.drew) ∧
                CallP P F_ref03_Flag [(.bool b115)] w109.drew fun (v117 : Value) w118 =>
                TyP .sl v117 fun (s119 : Sl) =>
                (S114 w118) ∧
                RunK .sl P (Builtin.append_ #[T_sl_uint8, T_sl_uint8] T_sl_uint8 #[s116.v, s119.v]) w118 fun (s120 : Sl) w121 =>
                (S114 w121) ∧
                StoreP P T_sl_uint8 (.pointer (some (Go.Addr.add a7 0))) s120.v w121 fun w122 =>
                (S114 w122) ∧
                J111 (some ()) w122) ∧
                (CallP P F_ref03_Flag [(.bool b115)] w109.drew fun (v123 : Value) w124 =>
                TyP .sl v123 fun (s125 : Sl) =>
                (S114 w124) ∧
                RunQ .sl P (Instr.loadAt T_sl_uint8 (.pointer (some (Go.Addr.add a7 0)))) w124 fun (s126 : Sl) =>
                (S114 w124) ∧
                RunK .sl P (Builtin.append_ #[T_sl_uint8, T_sl_uint8] T_sl_uint8 #[s126.v, s125.v]) w124 fun (s127 : Sl) w128 =>
                (S114 w128) ∧
                StoreP P T_sl_uint8 (.pointer (some (Go.Addr.add a7 0))) s127.v w128 fun w129 =>
                (S114 w129) ∧
                J111 (some ()) w129) ∧
                True)
                fun t112 w113 =>
                RunQ .sl P (Instr.loadAt T_sl_api_Batch (.pointer (some (Go.Addr.add a95 9)))) w113 fun (s130 : Sl) =>
                CallP P F_ref17_Laid_batches [(.pointer (some a7)), s130.v] w113 fun (v131 : Value) w132 =>
                TupP [] v131 fun (t133 : Unit) =>
                J19 (some ()) w132)
                (ifB (n22 == 4)
                (RunQ .val P (Instr.loadAt T_api_Cmd (.pointer (some (Go.Addr.add a0 30)))) w17 fun (v134 : Value) =>
                CallP P F_ref13_DocEncode [v134] w17 fun (v135 : Value) w136 =>
                TupP [.sl, (.int .i64)] v135 fun (t137 : Sl × Int × Unit) =>
                ifB (t137.snd.fst != 0)
                (CallP P F_ref17_Laid_fail [(.pointer (some a7)), (.int .i64 t137.snd.fst)] w136 fun (v138 : Value) w139 =>
                TupP [] v138 fun (t140 : Unit) =>
                CallP P F_ref17_Laid_bytes [(.pointer (some a7)), t137.fst.v] w139 fun (v141 : Value) w142 =>
                TupP [] v141 fun (t143 : Unit) =>
                J19 (some ()) w142)
                (CallP P F_ref17_Laid_bytes [(.pointer (some a7)), t137.fst.v] w136 fun (v144 : Value) w145 =>
                TupP [] v144 fun (t146 : Unit) =>
                J19 (some ()) w145))
                (RunQ (.int .i64) P (Instr.loadAt T_int (.pointer (some (Go.Addr.add a0 45)))) w17 fun (n147 : Int) =>
                RunQ (.int .i64) P (Instr.loadAt T_int (.pointer (some (Go.Addr.add a0 46)))) w17 fun (n148 : Int) =>
                RunQ (.int .i64) P (Instr.loadAt T_int (.pointer (some (Go.Addr.add a0 47)))) w17 fun (n149 : Int) =>
                RunQ (.int .i64) P (Instr.loadAt T_int (.pointer (some (Go.Addr.add a0 48)))) w17 fun (n150 : Int) =>
                RunQ (.int .i64) P (Instr.loadAt T_int (.pointer (some (Go.Addr.add a0 50)))) w17 fun (n151 : Int) =>
                RunQ (.int .i64) P (Instr.loadAt T_int (.pointer (some (Go.Addr.add a0 52)))) w17 fun (n152 : Int) =>
                RunQ (.int .i64) P (Instr.loadAt T_int (.pointer (some (Go.Addr.add a0 53)))) w17 fun (n153 : Int) =>
                RunQ (.int .i64) P (Instr.loadAt T_int (.pointer (some (Go.Addr.add a0 54)))) w17 fun (n154 : Int) =>
                RunQ (.int .i64) P (Instr.loadAt T_int (.pointer (some (Go.Addr.add a0 58)))) w17 fun (n155 : Int) =>
                RunK .sl P (Instr.buildSlice T_sl_int 9 #[(0, (.int .i64 n147)), (1, (.int .i64 n148)), (2, (.int .i64 n149)), (3, (.int .i64 n150)), (4, (.int .i64 n151)), (5, (.int .i64 n152)), (6, (.int .i64 n153)), (7, (.int .i64 n154)), (8, (.int .i64 n155))]) w17 fun (s156 : Sl) w157 =>
                CallP P F_ref17_Laid_ints [(.pointer (some a7)), s156.v] w157 fun (v158 : Value) w159 =>
                TupP [] v158 fun (t160 : Unit) =>
                JoinP (T := Unit) (fun J161 =>
                ∃ S164 : World → Prop, (S164 w159.drew) ∧
                HRun S164 (.int .u64) P (Instr.loadAt T_uint64 (.pointer (some (Go.Addr.add a0 49)))) fun (n165 : Int) =>
                (RunQ .sl P (Instr.loadAt T_sl_uint8 (.pointer (some (Go.Addr.add a7 0)))) w159.drew fun (s166 : Sl) =>
                (S164 w159.drew) ∧
                CallP P F_ref03_Uint [(.int .u64 n165)] w159.drew fun (v167 : Value) w168 =>
                TyP .sl v167 fun (s169 : Sl) =>
                (S164 w168) ∧
                RunK .sl P (Builtin.append_ #[T_sl_uint8, T_sl_uint8] T_sl_uint8 #[s166.v, s169.v]) w168 fun (s170 : Sl) w171 =>
                (S164 w171) ∧
                StoreP P T_sl_uint8 (.pointer (some (Go.Addr.add a7 0))) s170.v w171 fun w172 =>
                (S164 w172) ∧
                J161 (some ()) w172) ∧
                (CallP P F_ref03_Uint [(.int .u64 n165)] w159.drew fun (v173 : Value) w174 =>
                TyP .sl v173 fun (s175 : Sl) =>
                (S164 w174) ∧
                RunQ .sl P (Instr.loadAt T_sl_uint8 (.pointer (some (Go.Addr.add a7 0)))) w174 fun (s176 : Sl) =>
                (S164 w174) ∧
                RunK .sl P (Builtin.append_ #[T_sl_uint8, T_sl_uint8] T_sl_uint8 #[s176.v, s175.v]) w174 fun (s177 : Sl) w178 =>
                (S164 w178) ∧
                StoreP P T_sl_uint8 (.pointer (some (Go.Addr.add a7 0))) s177.v w178 fun w179 =>
                (S164 w179) ∧
                J161 (some ()) w179) ∧
                True)
                fun t162 w163 =>
                JoinP (T := Unit) (fun J180 =>
                ∃ S183 : World → Prop, (S183 w163.drew) ∧
                HRun S183 .bool P (Instr.loadAt T_bool (.pointer (some (Go.Addr.add a0 51)))) fun (b184 : Bool) =>
                (RunQ .sl P (Instr.loadAt T_sl_uint8 (.pointer (some (Go.Addr.add a7 0)))) w163.drew fun (s185 : Sl) =>
                (S183 w163.drew) ∧
                CallP P F_ref03_Flag [(.bool b184)] w163.drew fun (v186 : Value) w187 =>
                TyP .sl v186 fun (s188 : Sl) =>
                (S183 w187) ∧
                RunK .sl P (Builtin.append_ #[T_sl_uint8, T_sl_uint8] T_sl_uint8 #[s185.v, s188.v]) w187 fun (s189 : Sl) w190 =>
                (S183 w190) ∧
                StoreP P T_sl_uint8 (.pointer (some (Go.Addr.add a7 0))) s189.v w190 fun w191 =>
                (S183 w191) ∧
                J180 (some ()) w191) ∧
                (CallP P F_ref03_Flag [(.bool b184)] w163.drew fun (v192 : Value) w193 =>
                TyP .sl v192 fun (s194 : Sl) =>
                (S183 w193) ∧
                RunQ .sl P (Instr.loadAt T_sl_uint8 (.pointer (some (Go.Addr.add a7 0)))) w193 fun (s195 : Sl) =>
                (S183 w193) ∧
                RunK .sl P (Builtin.append_ #[T_sl_uint8, T_sl_uint8] T_sl_uint8 #[s195.v, s194.v]) w193 fun (s196 : Sl) w197 =>
                (S183 w197) ∧
                StoreP P T_sl_uint8 (.pointer (some (Go.Addr.add a7 0))) s196.v w197 fun w198 =>
                (S183 w198) ∧
                J180 (some ()) w198) ∧
                True)
                fun t181 w182 =>
                JoinP (T := Unit) (fun J199 =>
                RunQ .sl P (Instr.loadAt T_sl_int (.pointer (some (Go.Addr.add a0 55)))) w182 fun (s202 : Sl) =>
                ifB (decide ((↑s202.len : Int) > 512))
                (CallP P F_ref17_Laid_fail [(.pointer (some a7)), (.int .i64 2)] w182 fun (v203 : Value) w204 =>
                TupP [] v203 fun (t205 : Unit) =>
                J199 (some ()) w204)
                (J199 (some ()) w182))
                fun t200 w201 =>
                JoinP (T := Unit) (fun J206 =>
                ∃ S209 : World → Prop, (S209 w201.drew) ∧
                HRun S209 .sl P (Instr.loadAt T_sl_int (.pointer (some (Go.Addr.add a0 55)))) fun (s210 : Sl) =>
                (RunQ .sl P (Instr.loadAt T_sl_uint8 (.pointer (some (Go.Addr.add a7 0)))) w201.drew fun (s211 : Sl) =>
                (S209 w201.drew) ∧
                CallP P F_ref03_Ints [s210.v] w201.drew fun (v212 : Value) w213 =>
                TyP .sl v212 fun (s214 : Sl) =>
                (S209 w213) ∧
                RunK .sl P (Builtin.append_ #[T_sl_uint8, T_sl_uint8] T_sl_uint8 #[s211.v, s214.v]) w213 fun (s215 : Sl) w216 =>
                (S209 w216) ∧
                StoreP P T_sl_uint8 (.pointer (some (Go.Addr.add a7 0))) s215.v w216 fun w217 =>
                (S209 w217) ∧
                J206 (some ()) w217) ∧
                (CallP P F_ref03_Ints [s210.v] w201.drew fun (v218 : Value) w219 =>
                TyP .sl v218 fun (s220 : Sl) =>
                (S209 w219) ∧
                RunQ .sl P (Instr.loadAt T_sl_uint8 (.pointer (some (Go.Addr.add a7 0)))) w219 fun (s221 : Sl) =>
                (S209 w219) ∧
                RunK .sl P (Builtin.append_ #[T_sl_uint8, T_sl_uint8] T_sl_uint8 #[s221.v, s220.v]) w219 fun (s222 : Sl) w223 =>
                (S209 w223) ∧
                StoreP P T_sl_uint8 (.pointer (some (Go.Addr.add a7 0))) s222.v w223 fun w224 =>
                (S209 w224) ∧
                J206 (some ()) w224) ∧
                True)
                fun t207 w208 =>
                RunQ .val P (Instr.loadAt T_api_Batch (.pointer (some (Go.Addr.add a0 36)))) w208 fun (v225 : Value) =>
                CallP P F_ref17_Laid_batch [(.pointer (some a7)), v225] w208 fun (v226 : Value) w227 =>
                TupP [] v226 fun (t228 : Unit) =>
                RunQ .sl P (Instr.loadAt T_sl_api_Batch (.pointer (some (Go.Addr.add a0 56)))) w227 fun (s229 : Sl) =>
                CallP P F_ref17_Laid_batches [(.pointer (some a7)), s229.v] w227 fun (v230 : Value) w231 =>
                TupP [] v230 fun (t232 : Unit) =>
                RunQ .sl P (Instr.loadAt T_sl_api_Abort (.pointer (some (Go.Addr.add a0 57)))) w231 fun (s233 : Sl) =>
                CallP P F_ref17_Laid_count [(.pointer (some a7)), (.int .i64 ((↑s233.len : Int)))] w231 fun (v234 : Value) w235 =>
                TupP [] v234 fun (t236 : Unit) =>
                LoopP (T := Int × Unit) (some (0, ())) w235 fun next237 t238 w239 =>
                RunQ .sl P (Instr.loadAt T_sl_api_Abort (.pointer (some (Go.Addr.add a0 57)))) w239 fun (s240 : Sl) =>
                ifB (decide (t238.fst < (↑s240.len : Int)))
                (JoinP (T := Unit) (fun J241 =>
                ∃ S244 : World → Prop, (S244 w239.drew) ∧
                HRun S244 .sl P (Instr.loadAt T_sl_api_Abort (.pointer (some (Go.Addr.add a0 57)))) fun (s245 : Sl) =>
                HRun S244 .addr P (Instr.indexAt T_sl_api_Abort s245.v (.int .i64 t238.fst)) fun (a246 : Addr) =>
                HRun S244 (.int .u64) P (Instr.loadAt T_uint64 (.pointer (some (Go.Addr.add a246 0)))) fun (n247 : Int) =>
                (RunQ .sl P (Instr.loadAt T_sl_uint8 (.pointer (some (Go.Addr.add a7 0)))) w239.drew fun (s248 : Sl) =>
                (S244 w239.drew) ∧
                CallP P F_ref03_Uint [(.int .u64 n247)] w239.drew fun (v249 : Value) w250 =>
                TyP .sl v249 fun (s251 : Sl) =>
                (S244 w250) ∧
                RunK .sl P (Builtin.append_ #[T_sl_uint8, T_sl_uint8] T_sl_uint8 #[s248.v, s251.v]) w250 fun (s252 : Sl) w253 =>
                (S244 w253) ∧
                StoreP P T_sl_uint8 (.pointer (some (Go.Addr.add a7 0))) s252.v w253 fun w254 =>
                (S244 w254) ∧
                J241 (some ()) w254) ∧
                (CallP P F_ref03_Uint [(.int .u64 n247)] w239.drew fun (v255 : Value) w256 =>
                TyP .sl v255 fun (s257 : Sl) =>
                (S244 w256) ∧
                RunQ .sl P (Instr.loadAt T_sl_uint8 (.pointer (some (Go.Addr.add a7 0)))) w256 fun (s258 : Sl) =>
                (S244 w256) ∧
                RunK .sl P (Builtin.append_ #[T_sl_uint8, T_sl_uint8] T_sl_uint8 #[s258.v, s257.v]) w256 fun (s259 : Sl) w260 =>
                (S244 w260) ∧
                StoreP P T_sl_uint8 (.pointer (some (Go.Addr.add a7 0))) s259.v w260 fun w261 =>
                (S244 w261) ∧
                J241 (some ()) w261) ∧
                True)
                fun t242 w243 =>
                ∃ S262 : World → Prop, (S262 w243.drew) ∧
                HRun S262 .sl P (Instr.loadAt T_sl_api_Abort (.pointer (some (Go.Addr.add a0 57)))) fun (s263 : Sl) =>
                HRun S262 .addr P (Instr.indexAt T_sl_api_Abort s263.v (.int .i64 t238.fst)) fun (a264 : Addr) =>
                HRun S262 (.int .i64) P (Instr.loadAt T_int (.pointer (some (Go.Addr.add a264 1)))) fun (n265 : Int) =>
                HRun S262 .sl P (Instr.loadAt T_sl_api_Abort (.pointer (some (Go.Addr.add a0 57)))) fun (s266 : Sl) =>
                HRun S262 .addr P (Instr.indexAt T_sl_api_Abort s266.v (.int .i64 t238.fst)) fun (a267 : Addr) =>
                HRun S262 (.int .i64) P (Instr.loadAt T_int (.pointer (some (Go.Addr.add a267 2)))) fun (n268 : Int) =>
                RunK .sl P (Instr.buildSlice T_sl_int 2 #[(0, (.int .i64 n265)), (1, (.int .i64 n268))]) w243.drew fun (s269 : Sl) w270 =>
                (S262 w270) ∧
                CallP P F_ref17_Laid_ints [(.pointer (some a7)), s269.v] w270 fun (v271 : Value) w272 =>
                TupP [] v271 fun (t273 : Unit) =>
                (S262 w272) ∧
                next237 (some ((IntKind.i64.wrap (t238.fst + 1)), ())) w272)
                (J19 (some ()) w239))))))
            fun t20 w21 =>
            RunQ (.int .i64) P (Instr.loadAt T_int (.pointer (some (Go.Addr.add a7 1)))) w21 fun (n274 : Int) =>
             ifB (n274 != 0)
              (RunQ (.int .i64) P (Instr.loadAt T_int (.pointer (some (Go.Addr.add a7 1)))) w21.drew fun (n275 : Int) =>
               R (.tuple #[(.slice none 0 0), (.int .i64 n275)]) w21.drew)
              (RunQ (.int .i64) P (Instr.loadAt T_int (.pointer (some (Go.Addr.add a7 2)))) w21 fun (n276 : Int) =>
               ifB (n276 != 0)
                (RunQ (.int .i64) P (Instr.loadAt T_int (.pointer (some (Go.Addr.add a7 2)))) w21.drew fun (n277 : Int) =>
                R (.tuple #[(.slice none 0 0), (.int .i64 n277)]) w21.drew)
                (RunQ .sl P (Instr.loadAt T_sl_uint8 (.pointer (some (Go.Addr.add a7 0)))) w21 fun (s278 : Sl) =>
                R (.tuple #[s278.v, (.int .i64 0)]) w21))
def an_ref17_DocEncode : Ann := ⟨[(24, []), (37, []), (19, []), (12, []), (11, []), (9, []), (8, []), (43, []), (3, [])], [(26, [(6, (.int .i64))]), (16, [(10, (.int .i64))])], [23, 36, 7, 8, 11, 18]⟩
theorem e_ref17_DocEncode (R : Value → World → Prop) (x0 : Value) (w : World) : denF P an_ref17_DocEncode Try.f9 [x0] w R = S_ref17_DocEncode R x0 w := by kernel_rfl
theorem c_ref17_DocEncode {R : Value → World → Prop} {x0 : Value} {w : World} (h : S_ref17_DocEncode R x0 w) : CallP P F_ref17_DocEncode [x0] w R := calls_of_denF (an := an_ref17_DocEncode) Try.func9 (by rw [e_ref17_DocEncode]; exact h)


/-- penstock/penstockref17.SameMsg -/
def S_ref17_SameMsg (R : Value → World → Prop) (x0 : Value) (x1 : Value) (w : World) : Prop :=
 RunK .addr P (Instr.box T_api_Msg x0) w fun (a0 : Addr) w1 =>
 RunK .addr P (Instr.box T_api_Msg x1) w1 fun (a2 : Addr) w3 =>
  RunQ .val P (Instr.loadAt T_api_Msg (.pointer (some a0))) w3 fun (v4 : Value) =>
   CallP P F_ref17_DocEncode [v4] w3 fun (v5 : Value) w6 =>
    TupP [.sl, (.int .i64)] v5 fun (t7 : Sl × Int × Unit) =>
     RunQ .val P (Instr.loadAt T_api_Msg (.pointer (some a2))) w6 fun (v8 : Value) =>
      CallP P F_ref17_DocEncode [v8] w6 fun (v9 : Value) w10 =>
       TupP [.sl, (.int .i64)] v9 fun (t11 : Sl × Int × Unit) =>
        ifB (t7.snd.fst == 0)
         (ifB (t11.snd.fst == 0)
          (CallP P F_ref03_Same [t7.fst.v, t11.fst.v] w10 fun (v12 : Value) w13 =>
           TyP .bool v12 fun (b14 : Bool) =>
            R (.bool b14) w13)
          (R (.bool false) w10))
         (R (.bool false) w10)
def an_ref17_SameMsg : Ann := ⟨[], [], []⟩
theorem e_ref17_SameMsg (R : Value → World → Prop) (x0 : Value) (x1 : Value) (w : World) : denF P an_ref17_SameMsg Try.f14 [x0, x1] w R = S_ref17_SameMsg R x0 x1 w := by kernel_rfl
theorem c_ref17_SameMsg {R : Value → World → Prop} {x0 : Value} {x1 : Value} {w : World} (h : S_ref17_SameMsg R x0 x1 w) : CallP P F_ref17_SameMsg [x0, x1] w R := calls_of_denF (an := an_ref17_SameMsg) Try.func14 (by rw [e_ref17_SameMsg]; exact h)


/-- penstock/penstockref17.Bare -/
def S_ref17_Bare (R : Value → World → Prop) (x0 : Value) (w : World) : Prop :=
 RunK .addr P (Instr.box T_api_Msg x0) w fun (a0 : Addr) w1 =>
 RunK .addr P (Instr.alloc T_api_Msg true (.tuple #[])) w1 fun (a2 : Addr) w3 =>
  RunQ (.int .i64) P (Instr.loadAt T_int (.pointer (some (Go.Addr.add a0 0)))) w3 fun (n4 : Int) =>
   RunQ (.int .i64) P (Instr.loadAt T_int (.pointer (some (Go.Addr.add a0 1)))) w3 fun (n5 : Int) =>
    RunQ (.int .i64) P (Instr.loadAt T_int (.pointer (some (Go.Addr.add a0 2)))) w3 fun (n6 : Int) =>
     RunQ (.int .i64) P (Instr.loadAt T_int (.pointer (some (Go.Addr.add a0 3)))) w3 fun (n7 : Int) =>
      RunQ (.int .i64) P (Instr.loadAt T_api_Errno (.pointer (some (Go.Addr.add a0 4)))) w3 fun (n8 : Int) =>
       RunK .addr P (Instr.alloc T_api_Msg true (.tuple #[])) w3 fun (a9 : Addr) w10 =>
        StoreP P T_api_Msg (.pointer (some a9)) (.agg #[(.int .i64 n4), (.int .i64 n5), (.int .i64 n6), (.int .i64 n7), (.int .i64 n8), (.int .i64 0), (.int .i64 0), (.int .i64 0), (.int .i64 0), (.int .i64 0), (.int .i64 0), (.int .i64 0), (.bool false), (.slice none 0 0), (.slice none 0 0), (.int .i64 0), (.int .i64 0), (.int .i64 0), (.int .i64 0), (.int .i64 0), (.int .i64 0), (.int .i64 0), (.int .i64 0), (.int .i64 0), (.bool false), (.int .i64 0), (.int .i64 0), (.int .i64 0), (.int .i64 0), (.slice none 0 0), (.int .i64 0), (.int .i64 0), (.int .i64 0), (.int .i64 0), (.int .i64 0), (.slice none 0 0), (.int .i64 0), (.int .i64 0), (.int .u64 0), (.int .i64 0), (.int .i64 0), (.bool false), (.bool false), (.bool false), (.slice none 0 0), (.int .i64 0), (.int .i64 0), (.int .i64 0), (.int .i64 0), (.int .u64 0), (.int .i64 0), (.bool false), (.int .i64 0), (.int .i64 0), (.int .i64 0), (.slice none 0 0), (.slice none 0 0), (.slice none 0 0), (.int .i64 0)]) w10 fun w11 =>
         RunQ (.int .i64) P (Instr.loadAt T_int (.pointer (some (Go.Addr.add a0 0)))) w11 fun (n12 : Int) =>
          ifB (n12 == 1)
           (RunQ .val P (Instr.loadAt T_api_RMsg (.pointer (some (Go.Addr.add a0 5)))) w11 fun (v13 : Value) =>
            StoreP P T_api_RMsg (.pointer (some (Go.Addr.add a9 5))) v13 w11 fun w14 =>
             RunQ .val P (Instr.loadAt T_api_Msg (.pointer (some a9))) w14 fun (v15 : Value) =>
              StoreP P T_api_Msg (.pointer (some a2)) v15 w14 fun w16 =>
               LoadK .val P T_api_Msg (.pointer (some a2)) w16 fun (v17 : Value) =>
                R v17 w16)
           (ifB (n12 == 2)
            (RunQ .val P (Instr.loadAt T_api_FetchReq (.pointer (some (Go.Addr.add a0 15)))) w11 fun (v18 : Value) =>
             StoreP P T_api_FetchReq (.pointer (some (Go.Addr.add a9 15))) v18 w11 fun w19 =>
              RunQ .val P (Instr.loadAt T_api_Msg (.pointer (some a9))) w19 fun (v20 : Value) =>
               StoreP P T_api_Msg (.pointer (some a2)) v20 w19 fun w21 =>
                LoadK .val P T_api_Msg (.pointer (some a2)) w21 fun (v22 : Value) =>
                R v22 w21)
            (ifB (n12 == 3)
             (RunQ .val P (Instr.loadAt T_api_FetchReply (.pointer (some (Go.Addr.add a0 20)))) w11 fun (v23 : Value) =>
              StoreP P T_api_FetchReply (.pointer (some (Go.Addr.add a9 20))) v23 w11 fun w24 =>
               RunQ .val P (Instr.loadAt T_api_Msg (.pointer (some a9))) w24 fun (v25 : Value) =>
                StoreP P T_api_Msg (.pointer (some a2)) v25 w24 fun w26 =>
                LoadK .val P T_api_Msg (.pointer (some a2)) w26 fun (v27 : Value) =>
                R v27 w26)
             (ifB (n12 == 4)
              (RunQ .val P (Instr.loadAt T_api_Cmd (.pointer (some (Go.Addr.add a0 30)))) w11 fun (v28 : Value) =>
               StoreP P T_api_Cmd (.pointer (some (Go.Addr.add a9 30))) v28 w11 fun w29 =>
                RunQ .val P (Instr.loadAt T_api_Msg (.pointer (some a9))) w29 fun (v30 : Value) =>
                StoreP P T_api_Msg (.pointer (some a2)) v30 w29 fun w31 =>
                LoadK .val P T_api_Msg (.pointer (some a2)) w31 fun (v32 : Value) =>
                R v32 w31)
              (StoreP P T_api_RMsg (.pointer (some (Go.Addr.add a0 5))) (.agg #[(.int .i64 0), (.int .i64 0), (.int .i64 0), (.int .i64 0), (.int .i64 0), (.int .i64 0), (.int .i64 0), (.bool false), (.slice none 0 0), (.slice none 0 0)]) w11 fun w33 =>
               StoreP P T_api_FetchReq (.pointer (some (Go.Addr.add a0 15))) (.agg #[(.int .i64 0), (.int .i64 0), (.int .i64 0), (.int .i64 0), (.int .i64 0)]) w33 fun w34 =>
                StoreP P T_api_FetchReply (.pointer (some (Go.Addr.add a0 20))) (.agg #[(.int .i64 0), (.int .i64 0), (.int .i64 0), (.int .i64 0), (.bool false), (.int .i64 0), (.int .i64 0), (.int .i64 0), (.int .i64 0), (.slice none 0 0)]) w34 fun w35 =>
                StoreP P T_api_Cmd (.pointer (some (Go.Addr.add a0 30))) (.agg #[(.int .i64 0), (.int .i64 0), (.int .i64 0), (.int .i64 0), (.int .i64 0), (.slice none 0 0)]) w35 fun w36 =>
                RunQ .val P (Instr.loadAt T_api_Msg (.pointer (some a0))) w36 fun (v37 : Value) =>
                StoreP P T_api_Msg (.pointer (some a2)) v37 w36 fun w38 =>
                LoadK .val P T_api_Msg (.pointer (some a2)) w38 fun (v39 : Value) =>
                R v39 w38))))
def an_ref17_Bare : Ann := ⟨[], [], []⟩
theorem e_ref17_Bare (R : Value → World → Prop) (x0 : Value) (w : World) : denF P an_ref17_Bare Try.f15 [x0] w R = S_ref17_Bare R x0 w := by kernel_rfl
theorem c_ref17_Bare {R : Value → World → Prop} {x0 : Value} {w : World} (h : S_ref17_Bare R x0 w) : CallP P F_ref17_Bare [x0] w R := calls_of_denF (an := an_ref17_Bare) Try.func15 (by rw [e_ref17_Bare]; exact h)


/-- (*penstock/penstockref17.Laid).ints -/
def S_ref17_Laid_ints (R : Value → World → Prop) (x0 : Option Addr) (x1 : Sl) (w : World) : Prop :=
 LoopP (T := Int × Unit) (some (0, ())) w fun next0 t1 w2 =>
 ifB (decide (t1.fst < (↑x1.len : Int)))
  (∃ S3 : World → Prop, (S3 w2.drew) ∧
    nilCk x0 fun (a4 : Addr) =>
     HRun S3 .addr P (Instr.indexAt T_sl_int x1.v (.int .i64 t1.fst)) fun (a5 : Addr) =>
      HRun S3 (.int .i64) P (Instr.loadAt T_int (.pointer (some a5))) fun (n6 : Int) =>
       (RunQ .sl P (Instr.loadAt T_sl_uint8 (.pointer (some (a4.add 0)))) w2.drew fun (s7 : Sl) =>
         (S3 w2.drew) ∧
          CallP P F_ref03_Int [(.int .i64 n6)] w2.drew fun (v8 : Value) w9 =>
           TyP .sl v8 fun (s10 : Sl) =>
            (S3 w9) ∧
             RunK .sl P (Builtin.append_ #[T_sl_uint8, T_sl_uint8] T_sl_uint8 #[s7.v, s10.v]) w9 fun (s11 : Sl) w12 =>
              (S3 w12) ∧
               nilCk x0 fun (a13 : Addr) =>
                StoreP P T_sl_uint8 (.pointer (some (a13.add 0))) s11.v w12 fun w14 =>
                (S3 w14) ∧
                next0 (some ((IntKind.i64.wrap (t1.fst + 1)), ())) w14) ∧
        (CallP P F_ref03_Int [(.int .i64 n6)] w2.drew fun (v15 : Value) w16 =>
          TyP .sl v15 fun (s17 : Sl) =>
           (S3 w16) ∧
            RunQ .sl P (Instr.loadAt T_sl_uint8 (.pointer (some (a4.add 0)))) w16 fun (s18 : Sl) =>
             (S3 w16) ∧
              RunK .sl P (Builtin.append_ #[T_sl_uint8, T_sl_uint8] T_sl_uint8 #[s18.v, s17.v]) w16 fun (s19 : Sl) w20 =>
               (S3 w20) ∧
                nilCk x0 fun (a21 : Addr) =>
                StoreP P T_sl_uint8 (.pointer (some (a21.add 0))) s19.v w20 fun w22 =>
                (S3 w22) ∧
                next0 (some ((IntKind.i64.wrap (t1.fst + 1)), ())) w22) ∧
         True)
  (R (.tuple #[]) w2)
def an_ref17_Laid_ints : Ann := ⟨[], [(1, [(4, (.int .i64))])], [3]⟩
theorem e_ref17_Laid_ints (R : Value → World → Prop) (x0 : Option Addr) (x1 : Sl) (w : World) : denF P an_ref17_Laid_ints Try.f18 [.pointer x0, x1.v] w R = S_ref17_Laid_ints R x0 x1 w := by kernel_rfl
theorem c_ref17_Laid_ints {R : Value → World → Prop} {x0 : Option Addr} {x1 : Sl} {w : World} (h : S_ref17_Laid_ints R x0 x1 w) : CallP P F_ref17_Laid_ints [.pointer x0, x1.v] w R := calls_of_denF (an := an_ref17_Laid_ints) Try.func18 (by rw [e_ref17_Laid_ints]; exact h)


/-- (*penstock/penstockref17.Laid).count -/
def S_ref17_Laid_count (R : Value → World → Prop) (x0 : Option Addr) (x1 : Int) (w : World) : Prop :=
 JoinP (T := Unit) (fun J0 =>
 ifB (decide (x1 > 512))
  (CallP P F_ref17_Laid_fail [(.pointer x0), (.int .i64 2)] w fun (v3 : Value) w4 =>
   TupP [] v3 fun (t5 : Unit) =>
    J0 (some ()) w4)
  (J0 (some ()) w))
 fun t1 w2 =>
 ∃ S6 : World → Prop, (S6 w2.drew) ∧
   nilCk x0 fun (a7 : Addr) =>
    (RunQ .sl P (Instr.loadAt T_sl_uint8 (.pointer (some (a7.add 0)))) w2.drew fun (s8 : Sl) =>
      (S6 w2.drew) ∧
       CallP P F_ref03_Uint [(.int .u64 (IntKind.u64.wrap x1))] w2.drew fun (v9 : Value) w10 =>
        TyP .sl v9 fun (s11 : Sl) =>
         (S6 w10) ∧
          RunK .sl P (Builtin.append_ #[T_sl_uint8, T_sl_uint8] T_sl_uint8 #[s8.v, s11.v]) w10 fun (s12 : Sl) w13 =>
           (S6 w13) ∧
            nilCk x0 fun (a14 : Addr) =>
             StoreP P T_sl_uint8 (.pointer (some (a14.add 0))) s12.v w13 fun w15 =>
              (S6 w15) ∧
               R (.tuple #[]) w15) ∧
     (CallP P F_ref03_Uint [(.int .u64 (IntKind.u64.wrap x1))] w2.drew fun (v16 : Value) w17 =>
       TyP .sl v16 fun (s18 : Sl) =>
        (S6 w17) ∧
         RunQ .sl P (Instr.loadAt T_sl_uint8 (.pointer (some (a7.add 0)))) w17 fun (s19 : Sl) =>
          (S6 w17) ∧
           RunK .sl P (Builtin.append_ #[T_sl_uint8, T_sl_uint8] T_sl_uint8 #[s19.v, s18.v]) w17 fun (s20 : Sl) w21 =>
            (S6 w21) ∧
             nilCk x0 fun (a22 : Addr) =>
              StoreP P T_sl_uint8 (.pointer (some (a22.add 0))) s20.v w21 fun w23 =>
               (S6 w23) ∧
                R (.tuple #[]) w23) ∧
      True
def an_ref17_Laid_count : Ann := ⟨[(2, [])], [], [2]⟩
theorem e_ref17_Laid_count (R : Value → World → Prop) (x0 : Option Addr) (x1 : Int) (w : World) : denF P an_ref17_Laid_count Try.f20 [.pointer x0, .int .i64 x1] w R = S_ref17_Laid_count R x0 x1 w := by kernel_rfl
theorem c_ref17_Laid_count {R : Value → World → Prop} {x0 : Option Addr} {x1 : Int} {w : World} (h : S_ref17_Laid_count R x0 x1 w) : CallP P F_ref17_Laid_count [.pointer x0, .int .i64 x1] w R := calls_of_denF (an := an_ref17_Laid_count) Try.func20 (by rw [e_ref17_Laid_count]; exact h)


/-- (*penstock/penstockref17.Laid).bytes -/
def S_ref17_Laid_bytes (R : Value → World → Prop) (x0 : Option Addr) (x1 : Sl) (w : World) : Prop :=
 JoinP (T := Unit) (fun J0 =>
 ifB (decide ((↑x1.len : Int) > 4096))
  (nilCk x0 fun (a3 : Addr) =>
   StoreP P T_int (.pointer (some (a3.add 2))) (.int .i64 2) w fun w4 =>
    J0 (some ()) w4)
  (J0 (some ()) w))
 fun t1 w2 =>
 ∃ S5 : World → Prop, (S5 w2.drew) ∧
   nilCk x0 fun (a6 : Addr) =>
    (RunQ .sl P (Instr.loadAt T_sl_uint8 (.pointer (some (a6.add 0)))) w2.drew fun (s7 : Sl) =>
      (S5 w2.drew) ∧
       CallP P F_ref03_Bytes [x1.v] w2.drew fun (v8 : Value) w9 =>
        TyP .sl v8 fun (s10 : Sl) =>
         (S5 w9) ∧
          RunK .sl P (Builtin.append_ #[T_sl_uint8, T_sl_uint8] T_sl_uint8 #[s7.v, s10.v]) w9 fun (s11 : Sl) w12 =>
           (S5 w12) ∧
            nilCk x0 fun (a13 : Addr) =>
             StoreP P T_sl_uint8 (.pointer (some (a13.add 0))) s11.v w12 fun w14 =>
              (S5 w14) ∧
               R (.tuple #[]) w14) ∧
     (CallP P F_ref03_Bytes [x1.v] w2.drew fun (v15 : Value) w16 =>
       TyP .sl v15 fun (s17 : Sl) =>
        (S5 w16) ∧
         RunQ .sl P (Instr.loadAt T_sl_uint8 (.pointer (some (a6.add 0)))) w16 fun (s18 : Sl) =>
          (S5 w16) ∧
           RunK .sl P (Builtin.append_ #[T_sl_uint8, T_sl_uint8] T_sl_uint8 #[s18.v, s17.v]) w16 fun (s19 : Sl) w20 =>
            (S5 w20) ∧
             nilCk x0 fun (a21 : Addr) =>
              StoreP P T_sl_uint8 (.pointer (some (a21.add 0))) s19.v w20 fun w22 =>
               (S5 w22) ∧
                R (.tuple #[]) w22) ∧
      True
def an_ref17_Laid_bytes : Ann := ⟨[(2, [])], [], [2]⟩
theorem e_ref17_Laid_bytes (R : Value → World → Prop) (x0 : Option Addr) (x1 : Sl) (w : World) : denF P an_ref17_Laid_bytes Try.f21 [.pointer x0, x1.v] w R = S_ref17_Laid_bytes R x0 x1 w := by kernel_rfl
theorem c_ref17_Laid_bytes {R : Value → World → Prop} {x0 : Option Addr} {x1 : Sl} {w : World} (h : S_ref17_Laid_bytes R x0 x1 w) : CallP P F_ref17_Laid_bytes [.pointer x0, x1.v] w R := calls_of_denF (an := an_ref17_Laid_bytes) Try.func21 (by rw [e_ref17_Laid_bytes]; exact h)


/-- (*penstock/penstockref17.Laid).batches -/
def S_ref17_Laid_batches (R : Value → World → Prop) (x0 : Option Addr) (x1 : Sl) (w : World) : Prop :=
 CallP P F_ref17_Laid_count [(.pointer x0), (.int .i64 ((↑x1.len : Int)))] w fun (v0 : Value) w1 =>
 TupP [] v0 fun (t2 : Unit) =>
  LoopP (T := Int × Unit) (some (0, ())) w1 fun next3 t4 w5 =>
   ifB (decide (t4.fst < (↑x1.len : Int)))
    (RunQ .addr P (Instr.indexAt T_sl_api_Batch x1.v (.int .i64 t4.fst)) w5 fun (a6 : Addr) =>
     RunQ .val P (Instr.loadAt T_api_Batch (.pointer (some a6))) w5 fun (v7 : Value) =>
      CallP P F_ref17_Laid_batch [(.pointer x0), v7] w5 fun (v8 : Value) w9 =>
       TupP [] v8 fun (t10 : Unit) =>
        next3 (some ((IntKind.i64.wrap (t4.fst + 1)), ())) w9)
    (R (.tuple #[]) w5)
def an_ref17_Laid_batches : Ann := ⟨[], [(2, [(4, (.int .i64))])], []⟩
theorem e_ref17_Laid_batches (R : Value → World → Prop) (x0 : Option Addr) (x1 : Sl) (w : World) : denF P an_ref17_Laid_batches Try.f22 [.pointer x0, x1.v] w R = S_ref17_Laid_batches R x0 x1 w := by kernel_rfl
theorem c_ref17_Laid_batches {R : Value → World → Prop} {x0 : Option Addr} {x1 : Sl} {w : World} (h : S_ref17_Laid_batches R x0 x1 w) : CallP P F_ref17_Laid_batches [.pointer x0, x1.v] w R := calls_of_denF (an := an_ref17_Laid_batches) Try.func22 (by rw [e_ref17_Laid_batches]; exact h)



/-- (*penstock/penstockref17.Laid).fail -/
def S_ref17_Laid_fail (R : Value → World → Prop) (x0 : Option Addr) (x1 : Int) (w : World) : Prop :=
 nilCk x0 fun (a0 : Addr) =>
 RunQ (.int .i64) P (Instr.loadAt T_int (.pointer (some (a0.add 1)))) w fun (n1 : Int) =>
  ifB (n1 == 0)
   (nilCk x0 fun (a2 : Addr) =>
    StoreP P T_int (.pointer (some (a2.add 1))) (.int .i64 x1) w fun w3 =>
     R (.tuple #[]) w3)
   (R (.tuple #[]) w)
def an_ref17_Laid_fail : Ann := ⟨[], [], []⟩
theorem e_ref17_Laid_fail (R : Value → World → Prop) (x0 : Option Addr) (x1 : Int) (w : World) : denF P an_ref17_Laid_fail Try.f24 [.pointer x0, .int .i64 x1] w R = S_ref17_Laid_fail R x0 x1 w := by kernel_rfl
theorem c_ref17_Laid_fail {R : Value → World → Prop} {x0 : Option Addr} {x1 : Int} {w : World} (h : S_ref17_Laid_fail R x0 x1 w) : CallP P F_ref17_Laid_fail [.pointer x0, .int .i64 x1] w R := calls_of_denF (an := an_ref17_Laid_fail) Try.func24 (by rw [e_ref17_Laid_fail]; exact h)


/-- (*penstock/penstockref17.Laid).batch -/
def S_ref17_Laid_batch (R : Value → World → Prop) (x0 : Option Addr) (x1 : Value) (w : World) : Prop :=
 RunK .addr P (Instr.box T_api_Batch x1) w fun (a0 : Addr) w1 =>
 JoinP (T := Unit) (fun J2 =>
  RunQ .bool P (Instr.loadAt T_bool (.pointer (some (Go.Addr.add a0 6)))) w1 fun (b5 : Bool) =>
   ifB (!b5)
    (RunQ .sl P (Instr.loadAt T_sl_sl_uint8 (.pointer (some (Go.Addr.add a0 8)))) w1 fun (s6 : Sl) =>
     ifB ((↑s6.len : Int) == 0)
      (CallP P F_ref17_Laid_bytes [(.pointer x0), (.slice none 0 0)] w1 fun (v7 : Value) w8 =>
       TupP [] v7 fun (t9 : Unit) =>
        R (.tuple #[]) w8)
      (J2 (some ()) w1))
    (J2 (some ()) w1))
  fun t3 w4 =>
  RunQ .val P (Instr.loadAt T_api_Batch (.pointer (some a0))) w4 fun (v10 : Value) =>
   CallP P F_ref07_DocEncode [v10] w4 fun (v11 : Value) w12 =>
    TupP [.sl, (.int .i64)] v11 fun (t13 : Sl × Int × Unit) =>
     ifB (t13.snd.fst != 0)
      (CallP P F_ref17_Laid_fail [(.pointer x0), (.int .i64 t13.snd.fst)] w12 fun (v14 : Value) w15 =>
       TupP [] v14 fun (t16 : Unit) =>
        CallP P F_ref17_Laid_bytes [(.pointer x0), t13.fst.v] w15 fun (v17 : Value) w18 =>
         TupP [] v17 fun (t19 : Unit) =>
          R (.tuple #[]) w18)
      (CallP P F_ref17_Laid_bytes [(.pointer x0), t13.fst.v] w12 fun (v20 : Value) w21 =>
       TupP [] v20 fun (t22 : Unit) =>
        R (.tuple #[]) w21)
def an_ref17_Laid_batch : Ann := ⟨[(3, [])], [], []⟩
theorem e_ref17_Laid_batch (R : Value → World → Prop) (x0 : Option Addr) (x1 : Value) (w : World) : denF P an_ref17_Laid_batch Try.f27 [.pointer x0, x1] w R = S_ref17_Laid_batch R x0 x1 w := by kernel_rfl
theorem c_ref17_Laid_batch {R : Value → World → Prop} {x0 : Option Addr} {x1 : Value} {w : World} (h : S_ref17_Laid_batch R x0 x1 w) : CallP P F_ref17_Laid_batch [.pointer x0, x1] w R := calls_of_denF (an := an_ref17_Laid_batch) Try.func27 (by rw [e_ref17_Laid_batch]; exact h)


/-- (*penstock/wire.writer).ints -/
def S_wire_writer_ints (R : Value → World → Prop) (x0 : Option Addr) (x1 : Sl) (w : World) : Prop :=
 LoopP (T := Int × Unit) (some (0, ())) w fun next0 t1 w2 =>
 ifB (decide (t1.fst < (↑x1.len : Int)))
  (RunQ .addr P (Instr.indexAt T_sl_int x1.v (.int .i64 t1.fst)) w2 fun (a3 : Addr) =>
   RunQ (.int .i64) P (Instr.loadAt T_int (.pointer (some a3))) w2 fun (n4 : Int) =>
    nilCk x0 fun (a5 : Addr) =>
     RunQ .ptr P (Instr.loadAt T_p_codec_Writer (.pointer (some (a5.add 0)))) w2 fun (p6 : Option Addr) =>
      CallP P F_codec_Writer_Int [(.pointer p6), (.int .i64 n4)] w2 fun (v7 : Value) w8 =>
       TupP [] v7 fun (t9 : Unit) =>
        next0 (some ((IntKind.i64.wrap (t1.fst + 1)), ())) w8)
  (R (.tuple #[]) w2)
def an_wire_writer_ints : Ann := ⟨[], [(1, [(8, (.int .i64))])], []⟩
theorem e_wire_writer_ints (R : Value → World → Prop) (x0 : Option Addr) (x1 : Sl) (w : World) : denF P an_wire_writer_ints Try.f29 [.pointer x0, x1.v] w R = S_wire_writer_ints R x0 x1 w := by kernel_rfl
theorem c_wire_writer_ints {R : Value → World → Prop} {x0 : Option Addr} {x1 : Sl} {w : World} (h : S_wire_writer_ints R x0 x1 w) : CallP P F_wire_writer_ints [.pointer x0, x1.v] w R := calls_of_denF (an := an_wire_writer_ints) Try.func29 (by rw [e_wire_writer_ints]; exact h)


/-- (*penstock/wire.writer).rest -/
def S_wire_writer_rest (R : Value → World → Prop) (x0 : Option Addr) (x1 : Value) (w : World) : Prop :=
 RunK .addr P (Instr.box T_api_Msg x1) w fun (a0 : Addr) w1 =>
 RunQ (.int .i64) P (Instr.loadAt T_int (.pointer (some (Go.Addr.add a0 0)))) w1 fun (n2 : Int) =>
  ifB (n2 == 1)
   (RunQ .val P (Instr.loadAt T_api_RMsg (.pointer (some (Go.Addr.add a0 5)))) w1 fun (v3 : Value) =>
    CallP P F_wire_writer_raft [(.pointer x0), v3] w1 fun (v4 : Value) w5 =>
     TupP [] v4 fun (t6 : Unit) =>
      R (.tuple #[]) w5)
   (ifB (n2 == 2)
    (RunQ (.int .i64) P (Instr.loadAt T_int (.pointer (some ((Go.Addr.add a0 15).add 0)))) w1 fun (n7 : Int) =>
     RunQ (.int .i64) P (Instr.loadAt T_int (.pointer (some ((Go.Addr.add a0 15).add 1)))) w1 fun (n8 : Int) =>
      RunQ (.int .i64) P (Instr.loadAt T_int (.pointer (some ((Go.Addr.add a0 15).add 2)))) w1 fun (n9 : Int) =>
       RunQ (.int .i64) P (Instr.loadAt T_int (.pointer (some ((Go.Addr.add a0 15).add 3)))) w1 fun (n10 : Int) =>
        RunQ (.int .i64) P (Instr.loadAt T_int (.pointer (some ((Go.Addr.add a0 15).add 4)))) w1 fun (n11 : Int) =>
         RunK .sl P (Instr.buildSlice T_sl_int 5 #[(0, (.int .i64 n7)), (1, (.int .i64 n8)), (2, (.int .i64 n9)), (3, (.int .i64 n10)), (4, (.int .i64 n11))]) w1 fun (s12 : Sl) w13 =>
          CallP P F_wire_writer_ints [(.pointer x0), s12.v] w13 fun (v14 : Value) w15 =>
           TupP [] v14 fun (t16 : Unit) =>
            R (.tuple #[]) w15)
    (ifB (n2 == 3)
     (RunQ .val P (Instr.loadAt T_api_FetchReply (.pointer (some (Go.Addr.add a0 20)))) w1 fun (v17 : Value) =>
      RunK .addr P (Instr.alloc T_api_FetchReply true (.tuple #[])) w1 fun (a18 : Addr) w19 =>
       StoreP P T_api_FetchReply (.pointer (some a18)) v17 w19 fun w20 =>
        RunQ (.int .i64) P (Instr.loadAt T_int (.pointer (some (Go.Addr.add a18 0)))) w20 fun (n21 : Int) =>
         RunQ (.int .i64) P (Instr.loadAt T_int (.pointer (some (Go.Addr.add a18 1)))) w20 fun (n22 : Int) =>
          RunQ (.int .i64) P (Instr.loadAt T_api_Errno (.pointer (some (Go.Addr.add a18 2)))) w20 fun (n23 : Int) =>
           RunQ (.int .i64) P (Instr.loadAt T_int (.pointer (some (Go.Addr.add a18 3)))) w20 fun (n24 : Int) =>
            RunQ (.int .i64) P (Instr.loadAt T_int (.pointer (some (Go.Addr.add a18 5)))) w20 fun (n25 : Int) =>
             RunQ (.int .i64) P (Instr.loadAt T_int (.pointer (some (Go.Addr.add a18 6)))) w20 fun (n26 : Int) =>
              RunQ (.int .i64) P (Instr.loadAt T_int (.pointer (some (Go.Addr.add a18 7)))) w20 fun (n27 : Int) =>
               RunQ (.int .i64) P (Instr.loadAt T_int (.pointer (some (Go.Addr.add a18 8)))) w20 fun (n28 : Int) =>
                RunK .sl P (Instr.buildSlice T_sl_int 8 #[(0, (.int .i64 n21)), (1, (.int .i64 n22)), (2, (.int .i64 n23)), (3, (.int .i64 n24)), (4, (.int .i64 n25)), (5, (.int .i64 n26)), (6, (.int .i64 n27)), (7, (.int .i64 n28))]) w20 fun (s29 : Sl) w30 =>
                CallP P F_wire_writer_ints [(.pointer x0), s29.v] w30 fun (v31 : Value) w32 =>
                TupP [] v31 fun (t33 : Unit) =>
                ∃ S34 : World → Prop, (S34 w32.drew) ∧
                nilCk x0 fun (a35 : Addr) =>
                HRun S34 .ptr P (Instr.loadAt T_p_codec_Writer (.pointer (some (a35.add 0)))) fun (p36 : Option Addr) =>
                HRun S34 .bool P (Instr.loadAt T_bool (.pointer (some (Go.Addr.add a18 4)))) fun (b37 : Bool) =>
                CallP P F_codec_Writer_Flag [(.pointer p36), (.bool b37)] w32.drew fun (v38 : Value) w39 =>
                TupP [] v38 fun (t40 : Unit) =>
                (S34 w39) ∧
                RunQ .sl P (Instr.loadAt T_sl_api_Batch (.pointer (some (Go.Addr.add a18 9)))) w39 fun (s41 : Sl) =>
                CallP P F_wire_writer_batches [(.pointer x0), s41.v] w39 fun (v42 : Value) w43 =>
                TupP [] v42 fun (t44 : Unit) =>
                R (.tuple #[]) w43)
     (ifB (n2 == 4)
      (RunQ .val P (Instr.loadAt T_api_Cmd (.pointer (some (Go.Addr.add a0 30)))) w1 fun (v45 : Value) =>
       CallP P F_image_Encode [v45] w1 fun (v46 : Value) w47 =>
        TupP [.sl, (.int .i64)] v46 fun (t48 : Sl × Int × Unit) =>
         JoinP (T := Unit) (fun J49 =>
          ifB (t48.snd.fst != 0)
           (CallP P F_wire_writer_fail [(.pointer x0), (.int .i64 t48.snd.fst)] w47 fun (v52 : Value) w53 =>
            TupP [] v52 fun (t54 : Unit) =>
             J49 (some ()) w53)
           (J49 (some ()) w47))
          fun t50 w51 =>
          nilCk x0 fun (a55 : Addr) =>
           RunQ .ptr P (Instr.loadAt T_p_codec_Writer (.pointer (some (a55.add 0)))) w51 fun (p56 : Option Addr) =>
            CallP P F_codec_Writer_Bytes [(.pointer p56), t48.fst.v] w51 fun (v57 : Value) w58 =>
             TupP [] v57 fun (t59 : Unit) =>
              R (.tuple #[]) w58)
      (RunQ .val P (Instr.loadAt T_api_Msg (.pointer (some a0))) w1 fun (v60 : Value) =>
       CallP P F_wire_writer_client [(.pointer x0), v60] w1 fun (v61 : Value) w62 =>
        TupP [] v61 fun (t63 : Unit) =>
         R (.tuple #[]) w62))))
def an_wire_writer_rest : Ann := ⟨[(16, [])], [], []⟩
theorem e_wire_writer_rest (R : Value → World → Prop) (x0 : Option Addr) (x1 : Value) (w : World) : denF P an_wire_writer_rest Try.f30 [.pointer x0, x1] w R = S_wire_writer_rest R x0 x1 w := by kernel_rfl
theorem c_wire_writer_rest {R : Value → World → Prop} {x0 : Option Addr} {x1 : Value} {w : World} (h : S_wire_writer_rest R x0 x1 w) : CallP P F_wire_writer_rest [.pointer x0, x1] w R := calls_of_denF (an := an_wire_writer_rest) Try.func30 (by rw [e_wire_writer_rest]; exact h)


/-- (*penstock/wire.writer).raft -/
def S_wire_writer_raft (R : Value → World → Prop) (x0 : Option Addr) (x1 : Value) (w : World) : Prop :=
 RunK .addr P (Instr.box T_api_RMsg x1) w fun (a0 : Addr) w1 =>
 RunQ (.int .i64) P (Instr.loadAt T_int (.pointer (some (Go.Addr.add a0 0)))) w1 fun (n2 : Int) =>
  RunQ (.int .i64) P (Instr.loadAt T_int (.pointer (some (Go.Addr.add a0 1)))) w1 fun (n3 : Int) =>
   RunQ (.int .i64) P (Instr.loadAt T_int (.pointer (some (Go.Addr.add a0 2)))) w1 fun (n4 : Int) =>
    RunQ (.int .i64) P (Instr.loadAt T_int (.pointer (some (Go.Addr.add a0 3)))) w1 fun (n5 : Int) =>
     RunQ (.int .i64) P (Instr.loadAt T_int (.pointer (some (Go.Addr.add a0 4)))) w1 fun (n6 : Int) =>
      RunQ (.int .i64) P (Instr.loadAt T_int (.pointer (some (Go.Addr.add a0 5)))) w1 fun (n7 : Int) =>
       RunQ (.int .i64) P (Instr.loadAt T_int (.pointer (some (Go.Addr.add a0 6)))) w1 fun (n8 : Int) =>
        RunK .sl P (Instr.buildSlice T_sl_int 7 #[(0, (.int .i64 n2)), (1, (.int .i64 n3)), (2, (.int .i64 n4)), (3, (.int .i64 n5)), (4, (.int .i64 n6)), (5, (.int .i64 n7)), (6, (.int .i64 n8))]) w1 fun (s9 : Sl) w10 =>
         CallP P F_wire_writer_ints [(.pointer x0), s9.v] w10 fun (v11 : Value) w12 =>
          TupP [] v11 fun (t13 : Unit) =>
           ∃ S14 : World → Prop, (S14 w12.drew) ∧
             nilCk x0 fun (a15 : Addr) =>
              HRun S14 .ptr P (Instr.loadAt T_p_codec_Writer (.pointer (some (a15.add 0)))) fun (p16 : Option Addr) =>
               HRun S14 .bool P (Instr.loadAt T_bool (.pointer (some (Go.Addr.add a0 7)))) fun (b17 : Bool) =>
                CallP P F_codec_Writer_Flag [(.pointer p16), (.bool b17)] w12.drew fun (v18 : Value) w19 =>
                TupP [] v18 fun (t20 : Unit) =>
                (S14 w19) ∧
                RunQ .sl P (Instr.loadAt T_sl_api_Entry (.pointer (some (Go.Addr.add a0 8)))) w19 fun (s21 : Sl) =>
                CallP P F_wire_writer_count [(.pointer x0), (.int .i64 ((↑s21.len : Int)))] w19 fun (v22 : Value) w23 =>
                TupP [] v22 fun (t24 : Unit) =>
                RunQ .sl P (Instr.loadAt T_sl_api_Entry (.pointer (some (Go.Addr.add a0 8)))) w23 fun (s25 : Sl) =>
                LoopP (T := Int × Unit) (some (0, ())) w23 fun next26 t27 w28 =>
                ifB (decide (t27.fst < (↑s25.len : Int)))
                (RunQ .addr P (Instr.indexAt T_sl_api_Entry s25.v (.int .i64 t27.fst)) w28 fun (a29 : Addr) =>
                RunQ .val P (Instr.loadAt T_api_Entry (.pointer (some a29))) w28 fun (v30 : Value) =>
                RunK .addr P (Instr.alloc T_api_Entry true (.tuple #[])) w28 fun (a31 : Addr) w32 =>
                StoreP P T_api_Entry (.pointer (some a31)) v30 w32 fun w33 =>
                ∃ S34 : World → Prop, (S34 w33.drew) ∧
                nilCk x0 fun (a35 : Addr) =>
                HRun S34 .ptr P (Instr.loadAt T_p_codec_Writer (.pointer (some (a35.add 0)))) fun (p36 : Option Addr) =>
                HRun S34 (.int .i64) P (Instr.loadAt T_int (.pointer (some (Go.Addr.add a31 0)))) fun (n37 : Int) =>
                CallP P F_codec_Writer_Int [(.pointer p36), (.int .i64 n37)] w33.drew fun (v38 : Value) w39 =>
                TupP [] v38 fun (t40 : Unit) =>
                (S34 w39) ∧
                ∃ S41 : World → Prop, (S41 w39.drew) ∧
                nilCk x0 fun (a42 : Addr) =>
                HRun S41 .ptr P (Instr.loadAt T_p_codec_Writer (.pointer (some (a42.add 0)))) fun (p43 : Option Addr) =>
                HRun S41 .sl P (Instr.loadAt T_sl_uint8 (.pointer (some (Go.Addr.add a31 1)))) fun (s44 : Sl) =>
                CallP P F_codec_Writer_Bytes [(.pointer p43), s44.v] w39.drew fun (v45 : Value) w46 =>
                TupP [] v45 fun (t47 : Unit) =>
                (S41 w46) ∧
                next26 (some ((IntKind.i64.wrap (t27.fst + 1)), ())) w46)
                (∃ S48 : World → Prop, (S48 w28.drew) ∧
                nilCk x0 fun (a49 : Addr) =>
                HRun S48 .ptr P (Instr.loadAt T_p_codec_Writer (.pointer (some (a49.add 0)))) fun (p50 : Option Addr) =>
                HRun S48 .sl P (Instr.loadAt T_sl_uint8 (.pointer (some (Go.Addr.add a0 9)))) fun (s51 : Sl) =>
                CallP P F_codec_Writer_Bytes [(.pointer p50), s51.v] w28.drew fun (v52 : Value) w53 =>
                TupP [] v52 fun (t54 : Unit) =>
                (S48 w53) ∧
                R (.tuple #[]) w53)
def an_wire_writer_raft : Ann := ⟨[], [(5, [(38, (.int .i64))])], []⟩
theorem e_wire_writer_raft (R : Value → World → Prop) (x0 : Option Addr) (x1 : Value) (w : World) : denF P an_wire_writer_raft Try.f39 [.pointer x0, x1] w R = S_wire_writer_raft R x0 x1 w := by kernel_rfl
theorem c_wire_writer_raft {R : Value → World → Prop} {x0 : Option Addr} {x1 : Value} {w : World} (h : S_wire_writer_raft R x0 x1 w) : CallP P F_wire_writer_raft [.pointer x0, x1] w R := calls_of_denF (an := an_wire_writer_raft) Try.func39 (by rw [e_wire_writer_raft]; exact h)


/-- (*penstock/wire.writer).batches -/
def S_wire_writer_batches (R : Value → World → Prop) (x0 : Option Addr) (x1 : Sl) (w : World) : Prop :=
 CallP P F_wire_writer_count [(.pointer x0), (.int .i64 ((↑x1.len : Int)))] w fun (v0 : Value) w1 =>
 TupP [] v0 fun (t2 : Unit) =>
  LoopP (T := Int × Unit) (some (0, ())) w1 fun next3 t4 w5 =>
   ifB (decide (t4.fst < (↑x1.len : Int)))
    (RunQ .addr P (Instr.indexAt T_sl_api_Batch x1.v (.int .i64 t4.fst)) w5 fun (a6 : Addr) =>
     RunQ .val P (Instr.loadAt T_api_Batch (.pointer (some a6))) w5 fun (v7 : Value) =>
      RunK .addr P (Instr.alloc T_api_Batch true (.tuple #[])) w5 fun (a8 : Addr) w9 =>
       StoreP P T_api_Batch (.pointer (some a8)) v7 w9 fun w10 =>
        RunQ .val P (Instr.loadAt T_api_Batch (.pointer (some a8))) w10 fun (v11 : Value) =>
         CallP P F_wire_writer_batch [(.pointer x0), v11] w10 fun (v12 : Value) w13 =>
          TupP [] v12 fun (t14 : Unit) =>
           next3 (some ((IntKind.i64.wrap (t4.fst + 1)), ())) w13)
    (R (.tuple #[]) w5)
def an_wire_writer_batches : Ann := ⟨[], [(2, [(12, (.int .i64))])], []⟩
theorem e_wire_writer_batches (R : Value → World → Prop) (x0 : Option Addr) (x1 : Sl) (w : World) : denF P an_wire_writer_batches Try.f41 [.pointer x0, x1.v] w R = S_wire_writer_batches R x0 x1 w := by kernel_rfl
theorem c_wire_writer_batches {R : Value → World → Prop} {x0 : Option Addr} {x1 : Sl} {w : World} (h : S_wire_writer_batches R x0 x1 w) : CallP P F_wire_writer_batches [.pointer x0, x1.v] w R := calls_of_denF (an := an_wire_writer_batches) Try.func41 (by rw [e_wire_writer_batches]; exact h)


/-- (*penstock/wire.writer).fail -/
def S_wire_writer_fail (R : Value → World → Prop) (x0 : Option Addr) (x1 : Int) (w : World) : Prop :=
 nilCk x0 fun (a0 : Addr) =>
 RunQ (.int .i64) P (Instr.loadAt T_api_Errno (.pointer (some (a0.add 1)))) w fun (n1 : Int) =>
  ifB (n1 == 0)
   (nilCk x0 fun (a2 : Addr) =>
    StoreP P T_api_Errno (.pointer (some (a2.add 1))) (.int .i64 x1) w fun w3 =>
     R (.tuple #[]) w3)
   (R (.tuple #[]) w)
def an_wire_writer_fail : Ann := ⟨[], [], []⟩
theorem e_wire_writer_fail (R : Value → World → Prop) (x0 : Option Addr) (x1 : Int) (w : World) : denF P an_wire_writer_fail Try.f43 [.pointer x0, .int .i64 x1] w R = S_wire_writer_fail R x0 x1 w := by kernel_rfl
theorem c_wire_writer_fail {R : Value → World → Prop} {x0 : Option Addr} {x1 : Int} {w : World} (h : S_wire_writer_fail R x0 x1 w) : CallP P F_wire_writer_fail [.pointer x0, .int .i64 x1] w R := calls_of_denF (an := an_wire_writer_fail) Try.func43 (by rw [e_wire_writer_fail]; exact h)


/-- (*penstock/wire.writer).client -/
def S_wire_writer_client (R : Value → World → Prop) (x0 : Option Addr) (x1 : Value) (w : World) : Prop :=
 RunK .addr P (Instr.box T_api_Msg x1) w fun (a0 : Addr) w1 =>
 RunQ (.int .i64) P (Instr.loadAt T_int (.pointer (some (Go.Addr.add a0 45)))) w1 fun (n2 : Int) =>
  RunQ (.int .i64) P (Instr.loadAt T_int (.pointer (some (Go.Addr.add a0 46)))) w1 fun (n3 : Int) =>
   RunQ (.int .i64) P (Instr.loadAt T_int (.pointer (some (Go.Addr.add a0 47)))) w1 fun (n4 : Int) =>
    RunQ (.int .i64) P (Instr.loadAt T_int (.pointer (some (Go.Addr.add a0 48)))) w1 fun (n5 : Int) =>
     RunQ (.int .i64) P (Instr.loadAt T_int (.pointer (some (Go.Addr.add a0 50)))) w1 fun (n6 : Int) =>
      RunQ (.int .i64) P (Instr.loadAt T_int (.pointer (some (Go.Addr.add a0 52)))) w1 fun (n7 : Int) =>
       RunQ (.int .i64) P (Instr.loadAt T_int (.pointer (some (Go.Addr.add a0 53)))) w1 fun (n8 : Int) =>
        RunQ (.int .i64) P (Instr.loadAt T_int (.pointer (some (Go.Addr.add a0 54)))) w1 fun (n9 : Int) =>
         RunQ (.int .i64) P (Instr.loadAt T_int (.pointer (some (Go.Addr.add a0 58)))) w1 fun (n10 : Int) =>
          RunK .sl P (Instr.buildSlice T_sl_int 9 #[(0, (.int .i64 n2)), (1, (.int .i64 n3)), (2, (.int .i64 n4)), (3, (.int .i64 n5)), (4, (.int .i64 n6)), (5, (.int .i64 n7)), (6, (.int .i64 n8)), (7, (.int .i64 n9)), (8, (.int .i64 n10))]) w1 fun (s11 : Sl) w12 =>
           CallP P F_wire_writer_ints [(.pointer x0), s11.v] w12 fun (v13 : Value) w14 =>
            TupP [] v13 fun (t15 : Unit) =>
             ∃ S16 : World → Prop, (S16 w14.drew) ∧
               nilCk x0 fun (a17 : Addr) =>
                HRun S16 .ptr P (Instr.loadAt T_p_codec_Writer (.pointer (some (a17.add 0)))) fun (p18 : Option Addr) =>
                HRun S16 (.int .u64) P (Instr.loadAt T_uint64 (.pointer (some (Go.Addr.add a0 49)))) fun (n19 : Int) =>
                CallP P F_codec_Writer_Uint [(.pointer p18), (.int .u64 n19)] w14.drew fun (v20 : Value) w21 =>
                TupP [] v20 fun (t22 : Unit) =>
                (S16 w21) ∧
                ∃ S23 : World → Prop, (S23 w21.drew) ∧
                nilCk x0 fun (a24 : Addr) =>
                HRun S23 .ptr P (Instr.loadAt T_p_codec_Writer (.pointer (some (a24.add 0)))) fun (p25 : Option Addr) =>
                HRun S23 .bool P (Instr.loadAt T_bool (.pointer (some (Go.Addr.add a0 51)))) fun (b26 : Bool) =>
                CallP P F_codec_Writer_Flag [(.pointer p25), (.bool b26)] w21.drew fun (v27 : Value) w28 =>
                TupP [] v27 fun (t29 : Unit) =>
                (S23 w28) ∧
                JoinP (T := Unit) (fun J30 =>
                RunQ .sl P (Instr.loadAt T_sl_int (.pointer (some (Go.Addr.add a0 55)))) w28 fun (s33 : Sl) =>
                ifB (decide ((↑s33.len : Int) > 512))
                (CallP P F_wire_writer_fail [(.pointer x0), (.int .i64 2)] w28 fun (v34 : Value) w35 =>
                TupP [] v34 fun (t36 : Unit) =>
                J30 (some ()) w35)
                (J30 (some ()) w28))
                fun t31 w32 =>
                ∃ S37 : World → Prop, (S37 w32.drew) ∧
                nilCk x0 fun (a38 : Addr) =>
                HRun S37 .ptr P (Instr.loadAt T_p_codec_Writer (.pointer (some (a38.add 0)))) fun (p39 : Option Addr) =>
                HRun S37 .sl P (Instr.loadAt T_sl_int (.pointer (some (Go.Addr.add a0 55)))) fun (s40 : Sl) =>
                CallP P F_codec_Writer_Ints [(.pointer p39), s40.v] w32.drew fun (v41 : Value) w42 =>
                TupP [] v41 fun (t43 : Unit) =>
                (S37 w42) ∧
                RunQ .val P (Instr.loadAt T_api_Batch (.pointer (some (Go.Addr.add a0 36)))) w42 fun (v44 : Value) =>
                CallP P F_wire_writer_batch [(.pointer x0), v44] w42 fun (v45 : Value) w46 =>
                TupP [] v45 fun (t47 : Unit) =>
                RunQ .sl P (Instr.loadAt T_sl_api_Batch (.pointer (some (Go.Addr.add a0 56)))) w46 fun (s48 : Sl) =>
                CallP P F_wire_writer_batches [(.pointer x0), s48.v] w46 fun (v49 : Value) w50 =>
                TupP [] v49 fun (t51 : Unit) =>
                RunQ .sl P (Instr.loadAt T_sl_api_Abort (.pointer (some (Go.Addr.add a0 57)))) w50 fun (s52 : Sl) =>
                CallP P F_wire_writer_count [(.pointer x0), (.int .i64 ((↑s52.len : Int)))] w50 fun (v53 : Value) w54 =>
                TupP [] v53 fun (t55 : Unit) =>
                RunQ .sl P (Instr.loadAt T_sl_api_Abort (.pointer (some (Go.Addr.add a0 57)))) w54 fun (s56 : Sl) =>
                LoopP (T := Int × Unit) (some (0, ())) w54 fun next57 t58 w59 =>
                ifB (decide (t58.fst < (↑s56.len : Int)))
                (RunQ .addr P (Instr.indexAt T_sl_api_Abort s56.v (.int .i64 t58.fst)) w59 fun (a60 : Addr) =>
                RunQ .val P (Instr.loadAt T_api_Abort (.pointer (some a60))) w59 fun (v61 : Value) =>
                RunK .addr P (Instr.alloc T_api_Abort true (.tuple #[])) w59 fun (a62 : Addr) w63 =>
                StoreP P T_api_Abort (.pointer (some a62)) v61 w63 fun w64 =>
                ∃ S65 : World → Prop, (S65 w64.drew) ∧
                nilCk x0 fun (a66 : Addr) =>
                HRun S65 .ptr P (Instr.loadAt T_p_codec_Writer (.pointer (some (a66.add 0)))) fun (p67 : Option Addr) =>
                HRun S65 (.int .u64) P (Instr.loadAt T_uint64 (.pointer (some (Go.Addr.add a62 0)))) fun (n68 : Int) =>
                CallP P F_codec_Writer_Uint [(.pointer p67), (.int .u64 n68)] w64.drew fun (v69 : Value) w70 =>
                TupP [] v69 fun (t71 : Unit) =>
                (S65 w70) ∧
                ∃ S72 : World → Prop, (S72 w70.drew) ∧
                nilCk x0 fun (a73 : Addr) =>
                HRun S72 .ptr P (Instr.loadAt T_p_codec_Writer (.pointer (some (a73.add 0)))) fun (p74 : Option Addr) =>
                HRun S72 (.int .i64) P (Instr.loadAt T_int (.pointer (some (Go.Addr.add a62 1)))) fun (n75 : Int) =>
                CallP P F_codec_Writer_Int [(.pointer p74), (.int .i64 n75)] w70.drew fun (v76 : Value) w77 =>
                TupP [] v76 fun (t78 : Unit) =>
                (S72 w77) ∧
                ∃ S79 : World → Prop, (S79 w77.drew) ∧
                nilCk x0 fun (a80 : Addr) =>
                HRun S79 .ptr P (Instr.loadAt T_p_codec_Writer (.pointer (some (a80.add 0)))) fun (p81 : Option Addr) =>
                HRun S79 (.int .i64) P (Instr.loadAt T_int (.pointer (some (Go.Addr.add a62 2)))) fun (n82 : Int) =>
                CallP P F_codec_Writer_Int [(.pointer p81), (.int .i64 n82)] w77.drew fun (v83 : Value) w84 =>
                TupP [] v83 fun (t85 : Unit) =>
                (S79 w84) ∧
                next57 (some ((IntKind.i64.wrap (t58.fst + 1)), ())) w84)
                (R (.tuple #[]) w59)
def an_wire_writer_client : Ann := ⟨[(6, [])], [(11, [(70, (.int .i64))])], []⟩
theorem e_wire_writer_client (R : Value → World → Prop) (x0 : Option Addr) (x1 : Value) (w : World) : denF P an_wire_writer_client Try.f45 [.pointer x0, x1] w R = S_wire_writer_client R x0 x1 w := by kernel_rfl
theorem c_wire_writer_client {R : Value → World → Prop} {x0 : Option Addr} {x1 : Value} {w : World} (h : S_wire_writer_client R x0 x1 w) : CallP P F_wire_writer_client [.pointer x0, x1] w R := calls_of_denF (an := an_wire_writer_client) Try.func45 (by rw [e_wire_writer_client]; exact h)


/-- (*penstock/wire.writer).count -/
def S_wire_writer_count (R : Value → World → Prop) (x0 : Option Addr) (x1 : Int) (w : World) : Prop :=
 JoinP (T := Unit) (fun J0 =>
 ifB (decide (x1 > 512))
  (CallP P F_wire_writer_fail [(.pointer x0), (.int .i64 2)] w fun (v3 : Value) w4 =>
   TupP [] v3 fun (t5 : Unit) =>
    J0 (some ()) w4)
  (J0 (some ()) w))
 fun t1 w2 =>
 nilCk x0 fun (a6 : Addr) =>
  RunQ .ptr P (Instr.loadAt T_p_codec_Writer (.pointer (some (a6.add 0)))) w2 fun (p7 : Option Addr) =>
   CallP P F_codec_Writer_Uint [(.pointer p7), (.int .u64 (IntKind.u64.wrap x1))] w2 fun (v8 : Value) w9 =>
    TupP [] v8 fun (t10 : Unit) =>
     R (.tuple #[]) w9
def an_wire_writer_count : Ann := ⟨[(2, [])], [], []⟩
theorem e_wire_writer_count (R : Value → World → Prop) (x0 : Option Addr) (x1 : Int) (w : World) : denF P an_wire_writer_count Try.f57 [.pointer x0, .int .i64 x1] w R = S_wire_writer_count R x0 x1 w := by kernel_rfl
theorem c_wire_writer_count {R : Value → World → Prop} {x0 : Option Addr} {x1 : Int} {w : World} (h : S_wire_writer_count R x0 x1 w) : CallP P F_wire_writer_count [.pointer x0, .int .i64 x1] w R := calls_of_denF (an := an_wire_writer_count) Try.func57 (by rw [e_wire_writer_count]; exact h)


/-- (*penstock/wire.writer).batch -/
def S_wire_writer_batch (R : Value → World → Prop) (x0 : Option Addr) (x1 : Value) (w : World) : Prop :=
 RunK .addr P (Instr.box T_api_Batch x1) w fun (a0 : Addr) w1 =>
 JoinP (T := Unit) (fun J2 =>
  RunQ .sl P (Instr.loadAt T_sl_sl_uint8 (.pointer (some (Go.Addr.add a0 8)))) w1 fun (s5 : Sl) =>
   ifB ((↑s5.len : Int) == 0)
    (RunQ .bool P (Instr.loadAt T_bool (.pointer (some (Go.Addr.add a0 6)))) w1 fun (b6 : Bool) =>
     ifB (!b6)
      (nilCk x0 fun (a7 : Addr) =>
       RunQ .ptr P (Instr.loadAt T_p_codec_Writer (.pointer (some (a7.add 0)))) w1 fun (p8 : Option Addr) =>
        CallP P F_codec_Writer_Bytes [(.pointer p8), (.slice none 0 0)] w1 fun (v9 : Value) w10 =>
         TupP [] v9 fun (t11 : Unit) =>
          R (.tuple #[]) w10)
      (J2 (some ()) w1))
    (J2 (some ()) w1))
  fun t3 w4 =>
  RunQ .val P (Instr.loadAt T_api_Batch (.pointer (some a0))) w4 fun (v12 : Value) =>
   CallP P F_batch_Encode [v12] w4 fun (v13 : Value) w14 =>
    TupP [.sl, (.int .i64)] v13 fun (t15 : Sl × Int × Unit) =>
     JoinP (T := Unit) (fun J16 =>
      ifB (t15.snd.fst != 0)
       (CallP P F_wire_writer_fail [(.pointer x0), (.int .i64 t15.snd.fst)] w14 fun (v19 : Value) w20 =>
        TupP [] v19 fun (t21 : Unit) =>
         J16 (some ()) w20)
       (J16 (some ()) w14))
      fun t17 w18 =>
      nilCk x0 fun (a22 : Addr) =>
       RunQ .ptr P (Instr.loadAt T_p_codec_Writer (.pointer (some (a22.add 0)))) w18 fun (p23 : Option Addr) =>
        CallP P F_codec_Writer_Bytes [(.pointer p23), t15.fst.v] w18 fun (v24 : Value) w25 =>
         TupP [] v24 fun (t26 : Unit) =>
          R (.tuple #[]) w25
def an_wire_writer_batch : Ann := ⟨[(6, []), (3, [])], [], []⟩
theorem e_wire_writer_batch (R : Value → World → Prop) (x0 : Option Addr) (x1 : Value) (w : World) : denF P an_wire_writer_batch Try.f58 [.pointer x0, x1] w R = S_wire_writer_batch R x0 x1 w := by kernel_rfl
theorem c_wire_writer_batch {R : Value → World → Prop} {x0 : Option Addr} {x1 : Value} {w : World} (h : S_wire_writer_batch R x0 x1 w) : CallP P F_wire_writer_batch [.pointer x0, x1] w R := calls_of_denF (an := an_wire_writer_batch) Try.func58 (by rw [e_wire_writer_batch]; exact h)

end Go.Proofs.Ytokogdigfohbeaa
