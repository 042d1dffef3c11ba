/- The functions of the program as predicates over worlds, written by a program of mine (PkPrint); each is held against the code by the kernel. -/
import Derived.Test.YtokogdigfohbeaaN
namespace Go.Proofs.Ytokogdigfohbeaa
open Go Go.Pk
/-- (*penstock/wire.reader).whole -/
def S_wire_reader_whole (R : Value → World → Prop) (X : PX) (x0 : Option Addr) (w : World) : Prop :=
 RunK .addr P (Instr.alloc T_api_Msg true (.tuple #[])) w fun (a0 : Addr) w1 =>
 JoinP (T := Addr × Unit) (fun J2 =>
  ∃ S5 : World → Prop, (S5 w1.drew) ∧
    nilCk x0 fun (a6 : Addr) =>
     HRun S5 .ptr P (Instr.loadAt T_p_codec_Reader (.pointer (some (a6.add 0)))) fun (p7 : Option Addr) =>
      nilCk x0 fun (a8 : Addr) =>
       HRun S5 .ptr P (Instr.loadAt T_p_codec_Reader (.pointer (some (a8.add 0)))) fun (p9 : Option Addr) =>
        nilCk x0 fun (a10 : Addr) =>
         HRun S5 .ptr P (Instr.loadAt T_p_codec_Reader (.pointer (some (a10.add 0)))) fun (p11 : Option Addr) =>
          nilCk x0 fun (a12 : Addr) =>
           HRun S5 .ptr P (Instr.loadAt T_p_codec_Reader (.pointer (some (a12.add 0)))) fun (p13 : Option Addr) =>
            nilCk x0 fun (a14 : Addr) =>
             HRun S5 .ptr P (Instr.loadAt T_p_codec_Reader (.pointer (some (a14.add 0)))) fun (p15 : Option Addr) =>
              (CallX P F_codec_Reader_Int [(.pointer p7)] w1.drew (fun (v16 : Value) w17 =>
                TyP (.int .i64) v16 fun (n18 : Int) =>
                (S5 w17) ∧
                (CallX P F_codec_Reader_Int [(.pointer p9)] w17 (fun (v19 : Value) w20 =>
                TyP (.int .i64) v19 fun (n21 : Int) =>
                (S5 w20) ∧
                (CallX P F_codec_Reader_Int [(.pointer p11)] w20 (fun (v22 : Value) w23 =>
                TyP (.int .i64) v22 fun (n24 : Int) =>
                (S5 w23) ∧
                (CallX P F_codec_Reader_Int [(.pointer p13)] w23 (fun (v25 : Value) w26 =>
                TyP (.int .i64) v25 fun (n27 : Int) =>
                (S5 w26) ∧
                (CallX P F_codec_Reader_Int [(.pointer p15)] w26 (fun (v28 : Value) w29 =>
                TyP (.int .i64) v28 fun (n30 : Int) =>
                (S5 w29) ∧
                RunK .addr P (Instr.alloc T_api_Msg true (.tuple #[])) w29 fun (a31 : Addr) w32 =>
                (S5 w32) ∧
                StoreP P T_api_Msg (.pointer (some a31)) (.agg #[(.int .i64 n18), (.int .i64 n21), (.int .i64 n24), (.int .i64 n27), (.int .i64 n30), (.int .i64 0), (.int .i64 0), (.int .i64 0), (.int .i64 0), (.int .i64 0), (.int .i64 0), (.int .i64 0), (.bool false), (.slice none 0 0), (.slice none 0 0), (.int .i64 0), (.int .i64 0), (.int .i64 0), (.int .i64 0), (.int .i64 0), (.int .i64 0), (.int .i64 0), (.int .i64 0), (.int .i64 0), (.bool false), (.int .i64 0), (.int .i64 0), (.int .i64 0), (.int .i64 0), (.slice none 0 0), (.int .i64 0), (.int .i64 0), (.int .i64 0), (.int .i64 0), (.int .i64 0), (.slice none 0 0), (.int .i64 0), (.int .i64 0), (.int .u64 0), (.int .i64 0), (.int .i64 0), (.bool false), (.bool false), (.bool false), (.slice none 0 0), (.int .i64 0), (.int .i64 0), (.int .i64 0), (.int .i64 0), (.int .u64 0), (.int .i64 0), (.bool false), (.int .i64 0), (.int .i64 0), (.int .i64 0), (.slice none 0 0), (.slice none 0 0), (.slice none 0 0), (.int .i64 0)]) w32 fun w33 =>
                (S5 w33) ∧
                J2 (some (a31, ())) w33) X) ∧
                (RunK .addr P (Instr.alloc T_api_Msg true (.tuple #[])) w26 fun (a34 : Addr) w35 =>
                (S5 w35) ∧
                CallX P F_codec_Reader_Int [(.pointer p15)] w35 (fun (v36 : Value) w37 =>
                TyP (.int .i64) v36 fun (n38 : Int) =>
                (S5 w37) ∧
                StoreP P T_api_Msg (.pointer (some a34)) (.agg #[(.int .i64 n18), (.int .i64 n21), (.int .i64 n24), (.int .i64 n27), (.int .i64 n38), (.int .i64 0), (.int .i64 0), (.int .i64 0), (.int .i64 0), (.int .i64 0), (.int .i64 0), (.int .i64 0), (.bool false), (.slice none 0 0), (.slice none 0 0), (.int .i64 0), (.int .i64 0), (.int .i64 0), (.int .i64 0), (.int .i64 0), (.int .i64 0), (.int .i64 0), (.int .i64 0), (.int .i64 0), (.bool false), (.int .i64 0), (.int .i64 0), (.int .i64 0), (.int .i64 0), (.slice none 0 0), (.int .i64 0), (.int .i64 0), (.int .i64 0), (.int .i64 0), (.int .i64 0), (.slice none 0 0), (.int .i64 0), (.int .i64 0), (.int .u64 0), (.int .i64 0), (.int .i64 0), (.bool false), (.bool false), (.bool false), (.slice none 0 0), (.int .i64 0), (.int .i64 0), (.int .i64 0), (.int .i64 0), (.int .u64 0), (.int .i64 0), (.bool false), (.int .i64 0), (.int .i64 0), (.int .i64 0), (.slice none 0 0), (.slice none 0 0), (.slice none 0 0), (.int .i64 0)]) w37 fun w39 =>
                (S5 w39) ∧
                J2 (some (a34, ())) w39) X) ∧
                True) X) ∧
                (RunK .addr P (Instr.alloc T_api_Msg true (.tuple #[])) w23 fun (a40 : Addr) w41 =>
                (S5 w41) ∧
                CallX P F_codec_Reader_Int [(.pointer p13)] w41 (fun (v42 : Value) w43 =>
                TyP (.int .i64) v42 fun (n44 : Int) =>
                (S5 w43) ∧
                CallX P F_codec_Reader_Int [(.pointer p15)] w43 (fun (v45 : Value) w46 =>
                TyP (.int .i64) v45 fun (n47 : Int) =>
                (S5 w46) ∧
                StoreP P T_api_Msg (.pointer (some a40)) (.agg #[(.int .i64 n18), (.int .i64 n21), (.int .i64 n24), (.int .i64 n44), (.int .i64 n47), (.int .i64 0), (.int .i64 0), (.int .i64 0), (.int .i64 0), (.int .i64 0), (.int .i64 0), (.int .i64 0), (.bool false), (.slice none 0 0), (.slice none 0 0), (.int .i64 0), (.int .i64 0), (.int .i64 0), (.int .i64 0), (.int .i64 0), (.int .i64 0), (.int .i64 0), (.int .i64 0), (.int .i64 0), (.bool false), (.int .i64 0), (.int .i64 0), (.int .i64 0), (.int .i64 0), (.slice none 0 0), (.int .i64 0), (.int .i64 0), (.int .i64 0), (.int .i64 0), (.int .i64 0), (.slice none 0 0), (.int .i64 0), (.int .i64 0), (.int .u64 0), (.int .i64 0), (.int .i64 0), (.bool false), (.bool false), (.bool false), (.slice none 0 0), (.int .i64 0), (.int .i64 0), (.int .i64 0), (.int .i64 0), (.int .u64 0), (.int .i64 0), (.bool false), (.int .i64 0), (.int .i64 0), (.int .i64 0), (.slice none 0 0), (.slice none 0 0), (.slice none 0 0), (.int .i64 0)]) w46 fun w48 =>
                (S5 w48) ∧
                J2 (some (a40, ())) w48) X) X) ∧
                True) X) ∧
                (RunK .addr P (Instr.alloc T_api_Msg true (.tuple #[])) w20 fun (a49 : Addr) w50 =>
                (S5 w50) ∧
                CallX P F_codec_Reader_Int [(.pointer p11)] w50 (fun (v51 : Value) w52 =>
                TyP (.int .i64) v51 fun (n53 : Int) =>
                (S5 w52) ∧
                CallX P F_codec_Reader_Int [(.pointer p13)] w52 (fun (v54 : Value) w55 =>
                TyP (.int .i64) v54 fun (n56 : Int) =>
                (S5 w55) ∧
                CallX P F_codec_Reader_Int [(.pointer p15)] w55 (fun (v57 : Value) w58 =>
                TyP (.int .i64) v57 fun (n59 : Int) =>
                (S5 w58) ∧
                StoreP P T_api_Msg (.pointer (some a49)) (.agg #[(.int .i64 n18), (.int .i64 n21), (.int .i64 n53), (.int .i64 n56), (.int .i64 n59), (.int .i64 0), (.int .i64 0), (.int .i64 0), (.int .i64 0), (.int .i64 0), (.int .i64 0), (.int .i64 0), (.bool false), (.slice none 0 0), (.slice none 0 0), (.int .i64 0), (.int .i64 0), (.int .i64 0), (.int .i64 0), (.int .i64 0), (.int .i64 0), (.int .i64 0), (.int .i64 0), (.int .i64 0), (.bool false), (.int .i64 0), (.int .i64 0), (.int .i64 0), (.int .i64 0), (.slice none 0 0), (.int .i64 0), (.int .i64 0), (.int .i64 0), (.int .i64 0), (.int .i64 0), (.slice none 0 0), (.int .i64 0), (.int .i64 0), (.int .u64 0), (.int .i64 0), (.int .i64 0), (.bool false), (.bool false), (.bool false), (.slice none 0 0), (.int .i64 0), (.int .i64 0), (.int .i64 0), (.int .i64 0), (.int .u64 0), (.int .i64 0), (.bool false), (.int .i64 0), (.int .i64 0), (.int .i64 0), (.slice none 0 0), (.slice none 0 0), (.slice none 0 0), (.int .i64 0)]) w58 fun w60 =>
                (S5 w60) ∧
                J2 (some (a49, ())) w60) X) X) X) ∧
                True) X) ∧
                (RunK .addr P (Instr.alloc T_api_Msg true (.tuple #[])) w17 fun (a61 : Addr) w62 =>
                (S5 w62) ∧
                CallX P F_codec_Reader_Int [(.pointer p9)] w62 (fun (v63 : Value) w64 =>
                TyP (.int .i64) v63 fun (n65 : Int) =>
                (S5 w64) ∧
                CallX P F_codec_Reader_Int [(.pointer p11)] w64 (fun (v66 : Value) w67 =>
                TyP (.int .i64) v66 fun (n68 : Int) =>
                (S5 w67) ∧
                CallX P F_codec_Reader_Int [(.pointer p13)] w67 (fun (v69 : Value) w70 =>
                TyP (.int .i64) v69 fun (n71 : Int) =>
                (S5 w70) ∧
                CallX P F_codec_Reader_Int [(.pointer p15)] w70 (fun (v72 : Value) w73 =>
                TyP (.int .i64) v72 fun (n74 : Int) =>
                (S5 w73) ∧
                StoreP P T_api_Msg (.pointer (some a61)) (.agg #[(.int .i64 n18), (.int .i64 n65), (.int .i64 n68), (.int .i64 n71), (.int .i64 n74), (.int .i64 0), (.int .i64 0), (.int .i64 0), (.int .i64 0), (.int .i64 0), (.int .i64 0), (.int .i64 0), (.bool false), (.slice none 0 0), (.slice none 0 0), (.int .i64 0), (.int .i64 0), (.int .i64 0), (.int .i64 0), (.int .i64 0), (.int .i64 0), (.int .i64 0), (.int .i64 0), (.int .i64 0), (.bool false), (.int .i64 0), (.int .i64 0), (.int .i64 0), (.int .i64 0), (.slice none 0 0), (.int .i64 0), (.int .i64 0), (.int .i64 0), (.int .i64 0), (.int .i64 0), (.slice none 0 0), (.int .i64 0), (.int .i64 0), (.int .u64 0), (.int .i64 0), (.int .i64 0), (.bool false), (.bool false), (.bool false), (.slice none 0 0), (.int .i64 0), (.int .i64 0), (.int .i64 0), (.int .i64 0), (.int .u64 0), (.int .i64 0), (.bool false), (.int .i64 0), (.int .i64 0), (.int .i64 0), (.slice none 0 0), (.slice none 0 0), (.slice none 0 0), (.int .i64 0)]) w73 fun w75 =>
                (S5 w75) ∧
                J2 (some (a61, ())) w75) X) X) X) X) ∧
                True) X) ∧
               (RunK .addr P (Instr.alloc T_api_Msg true (.tuple #[])) w1.drew fun (a76 : Addr) w77 =>
                (S5 w77) ∧
                CallX P F_codec_Reader_Int [(.pointer p7)] w77 (fun (v78 : Value) w79 =>
                TyP (.int .i64) v78 fun (n80 : Int) =>
                (S5 w79) ∧
                CallX P F_codec_Reader_Int [(.pointer p9)] w79 (fun (v81 : Value) w82 =>
                TyP (.int .i64) v81 fun (n83 : Int) =>
                (S5 w82) ∧
                CallX P F_codec_Reader_Int [(.pointer p11)] w82 (fun (v84 : Value) w85 =>
                TyP (.int .i64) v84 fun (n86 : Int) =>
                (S5 w85) ∧
                CallX P F_codec_Reader_Int [(.pointer p13)] w85 (fun (v87 : Value) w88 =>
                TyP (.int .i64) v87 fun (n89 : Int) =>
                (S5 w88) ∧
                CallX P F_codec_Reader_Int [(.pointer p15)] w88 (fun (v90 : Value) w91 =>
                TyP (.int .i64) v90 fun (n92 : Int) =>
                (S5 w91) ∧
                StoreP P T_api_Msg (.pointer (some a76)) (.agg #[(.int .i64 n80), (.int .i64 n83), (.int .i64 n86), (.int .i64 n89), (.int .i64 n92), (.int .i64 0), (.int .i64 0), (.int .i64 0), (.int .i64 0), (.int .i64 0), (.int .i64 0), (.int .i64 0), (.bool false), (.slice none 0 0), (.slice none 0 0), (.int .i64 0), (.int .i64 0), (.int .i64 0), (.int .i64 0), (.int .i64 0), (.int .i64 0), (.int .i64 0), (.int .i64 0), (.int .i64 0), (.bool false), (.int .i64 0), (.int .i64 0), (.int .i64 0), (.int .i64 0), (.slice none 0 0), (.int .i64 0), (.int .i64 0), (.int .i64 0), (.int .i64 0), (.int .i64 0), (.slice none 0 0), (.int .i64 0), (.int .i64 0), (.int .u64 0), (.int .i64 0), (.int .i64 0), (.bool false), (.bool false), (.bool false), (.slice none 0 0), (.int .i64 0), (.int .i64 0), (.int .i64 0), (.int .i64 0), (.int .u64 0), (.int .i64 0), (.bool false), (.int .i64 0), (.int .i64 0), (.int .i64 0), (.slice none 0 0), (.slice none 0 0), (.slice none 0 0), (.int .i64 0)]) w91 fun w93 =>
                (S5 w93) ∧
                J2 (some (a76, ())) w93) X) X) X) X) X) ∧
                True)
  fun t3 w4 =>
  JoinP (T := Unit) (fun J94 =>
   RunQ (.int .i64) P (Instr.loadAt T_int (.pointer (some (Go.Addr.add t3.fst 0)))) w4 fun (n97 : Int) =>
    ifB (decide (n97 < 1))
     (CallX P F_wire_reader_fail [(.pointer x0), (.int .i64 1)] w4 (fun (v98 : Value) w99 =>
      TupP [] v98 fun (t100 : Unit) =>
       J94 (some ()) w99) X)
     (RunQ (.int .i64) P (Instr.loadAt T_int (.pointer (some (Go.Addr.add t3.fst 0)))) w4 fun (n101 : Int) =>
      ifB (decide (n101 > 15))
       (CallX P F_wire_reader_fail [(.pointer x0), (.int .i64 1)] w4 (fun (v102 : Value) w103 =>
        TupP [] v102 fun (t104 : Unit) =>
         J94 (some ()) w103) X)
       (J94 (some ()) w4)))
   fun t95 w96 =>
   JoinP (T := Unit) (fun J105 =>
    RunQ (.int .i64) P (Instr.loadAt T_int (.pointer (some (Go.Addr.add t3.fst 0)))) w96 fun (n108 : Int) =>
     ifB (n108 == 1)
      (CallX P F_wire_reader_raft [(.pointer x0)] w96 (fun (v109 : Value) w110 =>
       TyP .val v109 fun (v111 : Value) =>
        StoreP P T_api_RMsg (.pointer (some (Go.Addr.add t3.fst 5))) v111 w110 fun w112 =>
         J105 (some ()) w112) X)
      (ifB (n108 == 2)
       (∃ S113 : World → Prop, (S113 w96.drew) ∧
         nilCk x0 fun (a114 : Addr) =>
          HRun S113 .ptr P (Instr.loadAt T_p_codec_Reader (.pointer (some (a114.add 0)))) fun (p115 : Option Addr) =>
           nilCk x0 fun (a116 : Addr) =>
            HRun S113 .ptr P (Instr.loadAt T_p_codec_Reader (.pointer (some (a116.add 0)))) fun (p117 : Option Addr) =>
             nilCk x0 fun (a118 : Addr) =>
              HRun S113 .ptr P (Instr.loadAt T_p_codec_Reader (.pointer (some (a118.add 0)))) fun (p119 : Option Addr) =>
               nilCk x0 fun (a120 : Addr) =>
                HRun S113 .ptr P (Instr.loadAt T_p_codec_Reader (.pointer (some (a120.add 0)))) fun (p121 : Option Addr) =>
                nilCk x0 fun (a122 : Addr) =>
                HRun S113 .ptr P (Instr.loadAt T_p_codec_Reader (.pointer (some (a122.add 0)))) fun (p123 : Option Addr) =>
                CallX P F_codec_Reader_Int [(.pointer p115)] w96.drew (fun (v124 : Value) w125 =>
                TyP (.int .i64) v124 fun (n126 : Int) =>
                (S113 w125) ∧
                CallX P F_codec_Reader_Int [(.pointer p117)] w125 (fun (v127 : Value) w128 =>
                TyP (.int .i64) v127 fun (n129 : Int) =>
                (S113 w128) ∧
                CallX P F_codec_Reader_Int [(.pointer p119)] w128 (fun (v130 : Value) w131 =>
                TyP (.int .i64) v130 fun (n132 : Int) =>
                (S113 w131) ∧
                CallX P F_codec_Reader_Int [(.pointer p121)] w131 (fun (v133 : Value) w134 =>
                TyP (.int .i64) v133 fun (n135 : Int) =>
                (S113 w134) ∧
                CallX P F_codec_Reader_Int [(.pointer p123)] w134 (fun (v136 : Value) w137 =>
                TyP (.int .i64) v136 fun (n138 : Int) =>
                (S113 w137) ∧
                StoreP P T_api_FetchReq (.pointer (some (Go.Addr.add t3.fst 15))) (.agg #[(.int .i64 n126), (.int .i64 n129), (.int .i64 n132), (.int .i64 n135), (.int .i64 n138)]) w137 fun w139 =>
                (S113 w139) ∧
                J105 (some ()) w139) X) X) X) X) X)
       (ifB (n108 == 3)
        (∃ S140 : World → Prop, (S140 w96.drew) ∧
          nilCk x0 fun (a141 : Addr) =>
           HRun S140 .ptr P (Instr.loadAt T_p_codec_Reader (.pointer (some (a141.add 0)))) fun (p142 : Option Addr) =>
            nilCk x0 fun (a143 : Addr) =>
             HRun S140 .ptr P (Instr.loadAt T_p_codec_Reader (.pointer (some (a143.add 0)))) fun (p144 : Option Addr) =>
              nilCk x0 fun (a145 : Addr) =>
               HRun S140 .ptr P (Instr.loadAt T_p_codec_Reader (.pointer (some (a145.add 0)))) fun (p146 : Option Addr) =>
                nilCk x0 fun (a147 : Addr) =>
                HRun S140 .ptr P (Instr.loadAt T_p_codec_Reader (.pointer (some (a147.add 0)))) fun (p148 : Option Addr) =>
                nilCk x0 fun (a149 : Addr) =>
                HRun S140 .ptr P (Instr.loadAt T_p_codec_Reader (.pointer (some (a149.add 0)))) fun (p150 : Option Addr) =>
                nilCk x0 fun (a151 : Addr) =>
                HRun S140 .ptr P (Instr.loadAt T_p_codec_Reader (.pointer (some (a151.add 0)))) fun (p152 : Option Addr) =>
                nilCk x0 fun (a153 : Addr) =>
                HRun S140 .ptr P (Instr.loadAt T_p_codec_Reader (.pointer (some (a153.add 0)))) fun (p154 : Option Addr) =>
                nilCk x0 fun (a155 : Addr) =>
                HRun S140 .ptr P (Instr.loadAt T_p_codec_Reader (.pointer (some (a155.add 0)))) fun (p156 : Option Addr) =>
                nilCk x0 fun (a157 : Addr) =>
                HRun S140 .ptr P (Instr.loadAt T_p_codec_Reader (.pointer (some (a157.add 0)))) fun (p158 : Option Addr) =>
                CallX P F_codec_Reader_Int [(.pointer p142)] w96.drew (fun (v159 : Value) w160 =>
                TyP (.int .i64) v159 fun (n161 : Int) =>
                (S140 w160) ∧
                CallX P F_codec_Reader_Int [(.pointer p144)] w160 (fun (v162 : Value) w163 =>
                TyP (.int .i64) v162 fun (n164 : Int) =>
                (S140 w163) ∧
                CallX P F_codec_Reader_Int [(.pointer p146)] w163 (fun (v165 : Value) w166 =>
                TyP (.int .i64) v165 fun (n167 : Int) =>
                (S140 w166) ∧
                CallX P F_codec_Reader_Int [(.pointer p148)] w166 (fun (v168 : Value) w169 =>
                TyP (.int .i64) v168 fun (n170 : Int) =>
                (S140 w169) ∧
                CallX P F_codec_Reader_Int [(.pointer p150)] w169 (fun (v171 : Value) w172 =>
                TyP (.int .i64) v171 fun (n173 : Int) =>
                (S140 w172) ∧
                CallX P F_codec_Reader_Int [(.pointer p152)] w172 (fun (v174 : Value) w175 =>
                TyP (.int .i64) v174 fun (n176 : Int) =>
                (S140 w175) ∧
                CallX P F_codec_Reader_Int [(.pointer p154)] w175 (fun (v177 : Value) w178 =>
                TyP (.int .i64) v177 fun (n179 : Int) =>
                (S140 w178) ∧
                CallX P F_codec_Reader_Int [(.pointer p156)] w178 (fun (v180 : Value) w181 =>
                TyP (.int .i64) v180 fun (n182 : Int) =>
                (S140 w181) ∧
                CallX P F_codec_Reader_Flag [(.pointer p158)] w181 (fun (v183 : Value) w184 =>
                TyP .bool v183 fun (b185 : Bool) =>
                (S140 w184) ∧
                CallX P F_wire_reader_batches [(.pointer x0)] w184 (fun (v186 : Value) w187 =>
                TyP .sl v186 fun (s188 : Sl) =>
                (S140 w187) ∧
                StoreP P T_api_FetchReply (.pointer (some (Go.Addr.add t3.fst 20))) (.agg #[(.int .i64 n161), (.int .i64 n164), (.int .i64 n167), (.int .i64 n170), (.bool b185), (.int .i64 n173), (.int .i64 n176), (.int .i64 n179), (.int .i64 n182), s188.v]) w187 fun w189 =>
                (S140 w189) ∧
                J105 (some ()) w189) X) X) X) X) X) X) X) X) X) X)
        (ifB (n108 == 4)
         (nilCk x0 fun (a190 : Addr) =>
          RunQ .ptr P (Instr.loadAt T_p_codec_Reader (.pointer (some (a190.add 0)))) w96 fun (p191 : Option Addr) =>
           CallX P F_codec_Reader_Bytes [(.pointer p191)] w96 (fun (v192 : Value) w193 =>
            TyP .sl v192 fun (s194 : Sl) =>
             CallX P F_image_Decode [s194.v] w193 (fun (v195 : Value) w196 =>
              TupP [.val, (.int .i64)] v195 fun (t197 : Value × Int × Unit) =>
               RunK .addr P (Instr.alloc T_api_Cmd true (.tuple #[])) w196 fun (a198 : Addr) w199 =>
                StoreP P T_api_Cmd (.pointer (some a198)) t197.1 w199 fun w200 =>
                ifB (t197.snd.fst != 0)
                (CallX P F_wire_reader_fail [(.pointer x0), (.int .i64 t197.snd.fst)] w200 (fun (v201 : Value) w202 =>
                TupP [] v201 fun (t203 : Unit) =>
                RunQ .val P (Instr.loadAt T_api_Cmd (.pointer (some a198))) w202 fun (v204 : Value) =>
                StoreP P T_api_Cmd (.pointer (some (Go.Addr.add t3.fst 30))) v204 w202 fun w205 =>
                J105 (some ()) w205) X)
                (RunQ .val P (Instr.loadAt T_api_Cmd (.pointer (some a198))) w200 fun (v206 : Value) =>
                StoreP P T_api_Cmd (.pointer (some (Go.Addr.add t3.fst 30))) v206 w200 fun w207 =>
                J105 (some ()) w207)) X) X)
         (RunQ .val P (Instr.loadAt T_api_Msg (.pointer (some t3.fst))) w96 fun (v208 : Value) =>
          CallX P F_wire_reader_client [(.pointer x0), v208] w96 (fun (v209 : Value) w210 =>
           TyP .val v209 fun (v211 : Value) =>
            StoreP P T_api_Msg (.pointer (some t3.fst)) v211 w210 fun w212 =>
             J105 (some ()) w212) X)))))
    fun t106 w107 =>
    nilCk x0 fun (a213 : Addr) =>
     RunQ .ptr P (Instr.loadAt T_p_codec_Reader (.pointer (some (a213.add 0)))) w107 fun (p214 : Option Addr) =>
      CallX P F_codec_Reader_End [(.pointer p214)] w107 (fun (v215 : Value) w216 =>
       TyP (.int .i64) v215 fun (n217 : Int) =>
        ifB (n217 != 0)
         (CallX P F_wire_reader_fail [(.pointer x0), (.int .i64 n217)] w216 (fun (v218 : Value) w219 =>
          TupP [] v218 fun (t220 : Unit) =>
           RunQ .val P (Instr.loadAt T_api_Msg (.pointer (some t3.fst))) w219 fun (v221 : Value) =>
            StoreP P T_api_Msg (.pointer (some a0)) v221 w219 fun w222 =>
             LoadK .val P T_api_Msg (.pointer (some a0)) w222 fun (v223 : Value) =>
              R v223 w222) X)
         (RunQ .val P (Instr.loadAt T_api_Msg (.pointer (some t3.fst))) w216 fun (v224 : Value) =>
          StoreP P T_api_Msg (.pointer (some a0)) v224 w216 fun w225 =>
           LoadK .val P T_api_Msg (.pointer (some a0)) w225 fun (v226 : Value) =>
            R v226 w225)) X
def an_wire_reader_whole : Ann := ⟨[(17, []), (4, []), (2, [(3, .addr)])], [], []⟩
theorem e_wire_reader_whole (R : Value → World → Prop) (X : PX) (x0 : Option Addr) (w : World) : denFX P (some X) an_wire_reader_whole Try.f34 [.pointer x0] w R = S_wire_reader_whole R X x0 w := by kernel_rfl
theorem c_wire_reader_whole {R : Value → World → Prop} {X : PX} {x0 : Option Addr} {w : World} (h : S_wire_reader_whole R X x0 w) : CallX P F_wire_reader_whole [.pointer x0] w R X := calls_of_denFX (Px := some X) (an := an_wire_reader_whole) Try.func34 (by rw [e_wire_reader_whole]; exact h)


/-- (*penstock/wire.reader).fail -/
def S_wire_reader_fail (R : Value → World → Prop) (X : PX) (x0 : Option Addr) (x1 : Int) (w : World) : Prop :=
 nilCk x0 fun (a0 : Addr) =>
 RunQ .ptr P (Instr.loadAt T_p_codec_Reader (.pointer (some (a0.add 0)))) w fun (p1 : Option Addr) =>
  CallX P F_codec_Reader_State [(.pointer p1)] w (fun (v2 : Value) w3 =>
   TupP [(.int .i64), (.int .i64), (.int .i64)] v2 fun (t4 : Int × Int × Int × Unit) =>
    ifB (t4.snd.snd.fst != 0)
     (PanicP P (Instr.panic (.iface T_api_Errno (.int .i64 t4.snd.snd.fst))) w3 X)
     (PanicP P (Instr.panic (.iface T_api_Errno (.int .i64 x1))) w3 X)) X
def an_wire_reader_fail : Ann := ⟨[], [], []⟩
theorem e_wire_reader_fail (R : Value → World → Prop) (X : PX) (x0 : Option Addr) (x1 : Int) (w : World) : denFX P (some X) an_wire_reader_fail Try.f47 [.pointer x0, .int .i64 x1] w R = S_wire_reader_fail R X x0 x1 w := by kernel_rfl
theorem c_wire_reader_fail {R : Value → World → Prop} {X : PX} {x0 : Option Addr} {x1 : Int} {w : World} (h : S_wire_reader_fail R X x0 x1 w) : CallX P F_wire_reader_fail [.pointer x0, .int .i64 x1] w R X := calls_of_denFX (Px := some X) (an := an_wire_reader_fail) Try.func47 (by rw [e_wire_reader_fail]; exact h)


/-- (*penstock/wire.reader).raft -/
def S_wire_reader_raft (R : Value → World → Prop) (X : PX) (x0 : Option Addr) (w : World) : Prop :=
 RunK .addr P (Instr.box T_p_wire_reader (.pointer x0)) w fun (a0 : Addr) w1 =>
 RunK .addr P (Instr.alloc T_api_RMsg true (.tuple #[])) w1 fun (a2 : Addr) w3 =>
  JoinP (T := Addr × Unit) (fun J4 =>
   ∃ S7 : World → Prop, (S7 w3.drew) ∧
     HRun S7 .ptr P (Instr.loadAt T_p_wire_reader (.pointer (some a0))) fun (p8 : Option Addr) =>
      nilCk p8 fun (a9 : Addr) =>
       HRun S7 .ptr P (Instr.loadAt T_p_codec_Reader (.pointer (some (a9.add 0)))) fun (p10 : Option Addr) =>
        HRun S7 .ptr P (Instr.loadAt T_p_wire_reader (.pointer (some a0))) fun (p11 : Option Addr) =>
         nilCk p11 fun (a12 : Addr) =>
          HRun S7 .ptr P (Instr.loadAt T_p_codec_Reader (.pointer (some (a12.add 0)))) fun (p13 : Option Addr) =>
           HRun S7 .ptr P (Instr.loadAt T_p_wire_reader (.pointer (some a0))) fun (p14 : Option Addr) =>
            nilCk p14 fun (a15 : Addr) =>
             HRun S7 .ptr P (Instr.loadAt T_p_codec_Reader (.pointer (some (a15.add 0)))) fun (p16 : Option Addr) =>
              HRun S7 .ptr P (Instr.loadAt T_p_wire_reader (.pointer (some a0))) fun (p17 : Option Addr) =>
               nilCk p17 fun (a18 : Addr) =>
                HRun S7 .ptr P (Instr.loadAt T_p_codec_Reader (.pointer (some (a18.add 0)))) fun (p19 : Option Addr) =>
                HRun S7 .ptr P (Instr.loadAt T_p_wire_reader (.pointer (some a0))) fun (p20 : Option Addr) =>
                nilCk p20 fun (a21 : Addr) =>
                HRun S7 .ptr P (Instr.loadAt T_p_codec_Reader (.pointer (some (a21.add 0)))) fun (p22 : Option Addr) =>
                HRun S7 .ptr P (Instr.loadAt T_p_wire_reader (.pointer (some a0))) fun (p23 : Option Addr) =>
                nilCk p23 fun (a24 : Addr) =>
                HRun S7 .ptr P (Instr.loadAt T_p_codec_Reader (.pointer (some (a24.add 0)))) fun (p25 : Option Addr) =>
                HRun S7 .ptr P (Instr.loadAt T_p_wire_reader (.pointer (some a0))) fun (p26 : Option Addr) =>
                nilCk p26 fun (a27 : Addr) =>
                HRun S7 .ptr P (Instr.loadAt T_p_codec_Reader (.pointer (some (a27.add 0)))) fun (p28 : Option Addr) =>
                HRun S7 .ptr P (Instr.loadAt T_p_wire_reader (.pointer (some a0))) fun (p29 : Option Addr) =>
                nilCk p29 fun (a30 : Addr) =>
                HRun S7 .ptr P (Instr.loadAt T_p_codec_Reader (.pointer (some (a30.add 0)))) fun (p31 : Option Addr) =>
                (CallX P F_codec_Reader_Int [(.pointer p10)] w3.drew (fun (v32 : Value) w33 =>
                TyP (.int .i64) v32 fun (n34 : Int) =>
                (S7 w33) ∧
                (CallX P F_codec_Reader_Int [(.pointer p13)] w33 (fun (v35 : Value) w36 =>
                TyP (.int .i64) v35 fun (n37 : Int) =>
                (S7 w36) ∧
                (CallX P F_codec_Reader_Int [(.pointer p16)] w36 (fun (v38 : Value) w39 =>
                TyP (.int .i64) v38 fun (n40 : Int) =>
                (S7 w39) ∧
                (CallX P F_codec_Reader_Int [(.pointer p19)] w39 (fun (v41 : Value) w42 =>
                TyP (.int .i64) v41 fun (n43 : Int) =>
                (S7 w42) ∧
                (CallX P F_codec_Reader_Int [(.pointer p22)] w42 (fun (v44 : Value) w45 =>
                TyP (.int .i64) v44 fun (n46 : Int) =>
                (S7 w45) ∧
                (CallX P F_codec_Reader_Int [(.pointer p25)] w45 (fun (v47 : Value) w48 =>
                TyP (.int .i64) v47 fun (n49 : Int) =>
                (S7 w48) ∧
                (CallX P F_codec_Reader_Int [(.pointer p28)] w48 (fun (v50 : Value) w51 =>
                TyP (.int .i64) v50 fun (n52 : Int) =>
                (S7 w51) ∧
                (CallX P F_codec_Reader_Flag [(.pointer p31)] w51 (fun (v53 : Value) w54 =>
                TyP .bool v53 fun (b55 : Bool) =>
                (S7 w54) ∧
                RunK .addr P (Instr.alloc T_api_RMsg true (.tuple #[])) w54 fun (a56 : Addr) w57 =>
                (S7 w57) ∧
                StoreP P T_api_RMsg (.pointer (some a56)) (.agg #[(.int .i64 n34), (.int .i64 n37), (.int .i64 n40), (.int .i64 n43), (.int .i64 n46), (.int .i64 n49), (.int .i64 n52), (.bool b55), (.slice none 0 0), (.slice none 0 0)]) w57 fun w58 =>
                (S7 w58) ∧
                J4 (some (a56, ())) w58) X) ∧
                (RunK .addr P (Instr.alloc T_api_RMsg true (.tuple #[])) w51 fun (a59 : Addr) w60 =>
                (S7 w60) ∧
                CallX P F_codec_Reader_Flag [(.pointer p31)] w60 (fun (v61 : Value) w62 =>
                TyP .bool v61 fun (b63 : Bool) =>
                (S7 w62) ∧
                StoreP P T_api_RMsg (.pointer (some a59)) (.agg #[(.int .i64 n34), (.int .i64 n37), (.int .i64 n40), (.int .i64 n43), (.int .i64 n46), (.int .i64 n49), (.int .i64 n52), (.bool b63), (.slice none 0 0), (.slice none 0 0)]) w62 fun w64 =>
                (S7 w64) ∧
                J4 (some (a59, ())) w64) X) ∧
                True) X) ∧
                (RunK .addr P (Instr.alloc T_api_RMsg true (.tuple #[])) w48 fun (a65 : Addr) w66 =>
                (S7 w66) ∧
                CallX P F_codec_Reader_Int [(.pointer p28)] w66 (fun (v67 : Value) w68 =>
                TyP (.int .i64) v67 fun (n69 : Int) =>
                (S7 w68) ∧
                CallX P F_codec_Reader_Flag [(.pointer p31)] w68 (fun (v70 : Value) w71 =>
                TyP .bool v70 fun (b72 : Bool) =>
                (S7 w71) ∧
                StoreP P T_api_RMsg (.pointer (some a65)) (.agg #[(.int .i64 n34), (.int .i64 n37), (.int .i64 n40), (.int .i64 n43), (.int .i64 n46), (.int .i64 n49), (.int .i64 n69), (.bool b72), (.slice none 0 0), (.slice none 0 0)]) w71 fun w73 =>
                (S7 w73) ∧
                J4 (some (a65, ())) w73) X) X) ∧
                True) X) ∧
                (RunK .addr P (Instr.alloc T_api_RMsg true (.tuple #[])) w45 fun (a74 : Addr) w75 =>
                (S7 w75) ∧
                CallX P F_codec_Reader_Int [(.pointer p25)] w75 (fun (v76 : Value) w77 =>
                TyP (.int .i64) v76 fun (n78 : Int) =>
                (S7 w77) ∧
                CallX P F_codec_Reader_Int [(.pointer p28)] w77 (fun (v79 : Value) w80 =>
                TyP (.int .i64) v79 fun (n81 : Int) =>
                (S7 w80) ∧
                CallX P F_codec_Reader_Flag [(.pointer p31)] w80 (fun (v82 : Value) w83 =>
                TyP .bool v82 fun (b84 : Bool) =>
                (S7 w83) ∧
                StoreP P T_api_RMsg (.pointer (some a74)) (.agg #[(.int .i64 n34), (.int .i64 n37), (.int .i64 n40), (.int .i64 n43), (.int .i64 n46), (.int .i64 n78), (.int .i64 n81), (.bool b84), (.slice none 0 0), (.slice none 0 0)]) w83 fun w85 =>
                (S7 w85) ∧
                J4 (some (a74, ())) w85) X) X) X) ∧
                True) X) ∧
                (RunK .addr P (Instr.alloc T_api_RMsg true (.tuple #[])) w42 fun (a86 : Addr) w87 =>
                (S7 w87) ∧
                CallX P F_codec_Reader_Int [(.pointer p22)] w87 (fun (v88 : Value) w89 =>
                TyP (.int .i64) v88 fun (n90 : Int) =>
                (S7 w89) ∧
                CallX P F_codec_Reader_Int [(.pointer p25)] w89 (fun (v91 : Value) w92 =>
                TyP (.int .i64) v91 fun (n93 : Int) =>
                (S7 w92) ∧
                CallX P F_codec_Reader_Int [(.pointer p28)] w92 (fun (v94 : Value) w95 =>
                TyP (.int .i64) v94 fun (n96 : Int) =>
                (S7 w95) ∧
                CallX P F_codec_Reader_Flag [(.pointer p31)] w95 (fun (v97 : Value) w98 =>
                TyP .bool v97 fun (b99 : Bool) =>
                (S7 w98) ∧
                StoreP P T_api_RMsg (.pointer (some a86)) (.agg #[(.int .i64 n34), (.int .i64 n37), (.int .i64 n40), (.int .i64 n43), (.int .i64 n90), (.int .i64 n93), (.int .i64 n96), (.bool b99), (.slice none 0 0), (.slice none 0 0)]) w98 fun w100 =>
                (S7 w100) ∧
                J4 (some (a86, ())) w100) X) X) X) X) ∧
                True) X) ∧
                (RunK .addr P (Instr.alloc T_api_RMsg true (.tuple #[])) w39 fun (a101 : Addr) w102 =>
                (S7 w102) ∧
                CallX P F_codec_Reader_Int [(.pointer p19)] w102 (fun (v103 : Value) w104 =>
                TyP (.int .i64) v103 fun (n105 : Int) =>
                (S7 w104) ∧
                CallX P F_codec_Reader_Int [(.pointer p22)] w104 (fun (v106 : Value) w107 =>
                TyP (.int .i64) v106 fun (n108 : Int) =>
                (S7 w107) ∧
                CallX P F_codec_Reader_Int [(.pointer p25)] w107 (fun (v109 : Value) w110 =>
                TyP (.int .i64) v109 fun (n111 : Int) =>
                (S7 w110) ∧
                CallX P F_codec_Reader_Int [(.pointer p28)] w110 (fun (v112 : Value) w113 =>
                TyP (.int .i64) v112 fun (n114 : Int) =>
                (S7 w113) ∧
                CallX P F_codec_Reader_Flag [(.pointer p31)] w113 (fun (v115 : Value) w116 =>
                TyP .bool v115 fun (b117 : Bool) =>
                (S7 w116) ∧
                StoreP P T_api_RMsg (.pointer (some a101)) (.agg #[(.int .i64 n34), (.int .i64 n37), (.int .i64 n40), (.int .i64 n105), (.int .i64 n108), (.int .i64 n111), (.int .i64 n114), (.bool b117), (.slice none 0 0), (.slice none 0 0)]) w116 fun w118 =>
                (S7 w118) ∧
                J4 (some (a101, ())) w118) X) X) X) X) X) ∧
                True) X) ∧
                (RunK .addr P (Instr.alloc T_api_RMsg true (.tuple #[])) w36 fun (a119 : Addr) w120 =>
                (S7 w120) ∧
                CallX P F_codec_Reader_Int [(.pointer p16)] w120 (fun (v121 : Value) w122 =>
                TyP (.int .i64) v121 fun (n123 : Int) =>
                (S7 w122) ∧
                CallX P F_codec_Reader_Int [(.pointer p19)] w122 (fun (v124 : Value) w125 =>
                TyP (.int .i64) v124 fun (n126 : Int) =>
                (S7 w125) ∧
                CallX P F_codec_Reader_Int [(.pointer p22)] w125 (fun (v127 : Value) w128 =>
                TyP (.int .i64) v127 fun (n129 : Int) =>
                (S7 w128) ∧
                CallX P F_codec_Reader_Int [(.pointer p25)] w128 (fun (v130 : Value) w131 =>
                TyP (.int .i64) v130 fun (n132 : Int) =>
                (S7 w131) ∧
                CallX P F_codec_Reader_Int [(.pointer p28)] w131 (fun (v133 : Value) w134 =>
                TyP (.int .i64) v133 fun (n135 : Int) =>
                (S7 w134) ∧
                CallX P F_codec_Reader_Flag [(.pointer p31)] w134 (fun (v136 : Value) w137 =>
                TyP .bool v136 fun (b138 : Bool) =>
                (S7 w137) ∧
                StoreP P T_api_RMsg (.pointer (some a119)) (.agg #[(.int .i64 n34), (.int .i64 n37), (.int .i64 n123), (.int .i64 n126), (.int .i64 n129), (.int .i64 n132), (.int .i64 n135), (.bool b138), (.slice none 0 0), (.slice none 0 0)]) w137 fun w139 =>
                (S7 w139) ∧
                J4 (some (a119, ())) w139) X) X) X) X) X) X) ∧
                True) X) ∧
                (RunK .addr P (Instr.alloc T_api_RMsg true (.tuple #[])) w33 fun (a140 : Addr) w141 =>
                (S7 w141) ∧
                CallX P F_codec_Reader_Int [(.pointer p13)] w141 (fun (v142 : Value) w143 =>
                TyP (.int .i64) v142 fun (n144 : Int) =>
                (S7 w143) ∧
                CallX P F_codec_Reader_Int [(.pointer p16)] w143 (fun (v145 : Value) w146 =>
                TyP (.int .i64) v145 fun (n147 : Int) =>
                (S7 w146) ∧
                CallX P F_codec_Reader_Int [(.pointer p19)] w146 (fun (v148 : Value) w149 =>
                TyP (.int .i64) v148 fun (n150 : Int) =>
                (S7 w149) ∧
                CallX P F_codec_Reader_Int [(.pointer p22)] w149 (fun (v151 : Value) w152 =>
                TyP (.int .i64) v151 fun (n153 : Int) =>
                (S7 w152) ∧
                CallX P F_codec_Reader_Int [(.pointer p25)] w152 (fun (v154 : Value) w155 =>
                TyP (.int .i64) v154 fun (n156 : Int) =>
                (S7 w155) ∧
                CallX P F_codec_Reader_Int [(.pointer p28)] w155 (fun (v157 : Value) w158 =>
                TyP (.int .i64) v157 fun (n159 : Int) =>
                (S7 w158) ∧
                CallX P F_codec_Reader_Flag [(.pointer p31)] w158 (fun (v160 : Value) w161 =>
                TyP .bool v160 fun (b162 : Bool) =>
                (S7 w161) ∧
                StoreP P T_api_RMsg (.pointer (some a140)) (.agg #[(.int .i64 n34), (.int .i64 n144), (.int .i64 n147), (.int .i64 n150), (.int .i64 n153), (.int .i64 n156), (.int .i64 n159), (.bool b162), (.slice none 0 0), (.slice none 0 0)]) w161 fun w163 =>
                (S7 w163) ∧
                J4 (some (a140, ())) w163) X) X) X) X) X) X) X) ∧
                True) X) ∧
                (RunK .addr P (Instr.alloc T_api_RMsg true (.tuple #[])) w3.drew fun (a164 : Addr) w165 =>
                (S7 w165) ∧
                CallX P F_codec_Reader_Int [(.pointer p10)] w165 (fun (v166 : Value) w167 =>
                TyP (.int .i64) v166 fun (n168 : Int) =>
                (S7 w167) ∧
                CallX P F_codec_Reader_Int [(.pointer p13)] w167 (fun (v169 : Value) w170 =>
                TyP (.int .i64) v169 fun (n171 : Int) =>
                (S7 w170) ∧
                CallX P F_codec_Reader_Int [(.pointer p16)] w170 (fun (v172 : Value) w173 =>
                TyP (.int .i64) v172 fun (n174 : Int) =>
                (S7 w173) ∧
                CallX P F_codec_Reader_Int [(.pointer p19)] w173 (fun (v175 : Value) w176 =>
                TyP (.int .i64) v175 fun (n177 : Int) =>
                (S7 w176) ∧
                CallX P F_codec_Reader_Int [(.pointer p22)] w176 (fun (v178 : Value) w179 =>
                TyP (.int .i64) v178 fun (n180 : Int) =>
                (S7 w179) ∧
                CallX P F_codec_Reader_Int [(.pointer p25)] w179 (fun (v181 : Value) w182 =>
                TyP (.int .i64) v181 fun (n183 : Int) =>
                (S7 w182) ∧
                CallX P F_codec_Reader_Int [(.pointer p28)] w182 (fun (v184 : Value) w185 =>
                TyP (.int .i64) v184 fun (n186 : Int) =>
                (S7 w185) ∧
                CallX P F_codec_Reader_Flag [(.pointer p31)] w185 (fun (v187 : Value) w188 =>
                TyP .bool v187 fun (b189 : Bool) =>
                (S7 w188) ∧
                StoreP P T_api_RMsg (.pointer (some a164)) (.agg #[(.int .i64 n168), (.int .i64 n171), (.int .i64 n174), (.int .i64 n177), (.int .i64 n180), (.int .i64 n183), (.int .i64 n186), (.bool b189), (.slice none 0 0), (.slice none 0 0)]) w188 fun w190 =>
                (S7 w190) ∧
                J4 (some (a164, ())) w190) X) X) X) X) X) X) X) X) ∧
                True)
   fun t5 w6 =>
   RunQ .ptr P (Instr.loadAt T_p_wire_reader (.pointer (some a0))) w6 fun (p191 : Option Addr) =>
    CallX P F_wire_many_api_Entry [(.pointer p191), (.func (Go.Fn.func 63) #[] #[(.pointer (some a0))])] w6 (fun (v192 : Value) w193 =>
     TyP .sl v192 fun (s194 : Sl) =>
      StoreP P T_sl_api_Entry (.pointer (some (Go.Addr.add t5.fst 8))) s194.v w193 fun w195 =>
       RunQ .ptr P (Instr.loadAt T_p_wire_reader (.pointer (some a0))) w195 fun (p196 : Option Addr) =>
        nilCk p196 fun (a197 : Addr) =>
         RunQ .ptr P (Instr.loadAt T_p_codec_Reader (.pointer (some (a197.add 0)))) w195 fun (p198 : Option Addr) =>
          CallX P F_codec_Reader_Bytes [(.pointer p198)] w195 (fun (v199 : Value) w200 =>
           TyP .sl v199 fun (s201 : Sl) =>
            StoreP P T_sl_uint8 (.pointer (some (Go.Addr.add t5.fst 9))) s201.v w200 fun w202 =>
             RunQ .val P (Instr.loadAt T_api_RMsg (.pointer (some t5.fst))) w202 fun (v203 : Value) =>
              StoreP P T_api_RMsg (.pointer (some a2)) v203 w202 fun w204 =>
               LoadK .val P T_api_RMsg (.pointer (some a2)) w204 fun (v205 : Value) =>
                R v205 w204) X) X
def an_wire_reader_raft : Ann := ⟨[(2, [(3, .addr)])], [], []⟩
theorem e_wire_reader_raft (R : Value → World → Prop) (X : PX) (x0 : Option Addr) (w : World) : denFX P (some X) an_wire_reader_raft Try.f48 [.pointer x0] w R = S_wire_reader_raft R X x0 w := by kernel_rfl
theorem c_wire_reader_raft {R : Value → World → Prop} {X : PX} {x0 : Option Addr} {w : World} (h : S_wire_reader_raft R X x0 w) : CallX P F_wire_reader_raft [.pointer x0] w R X := calls_of_denFX (Px := some X) (an := an_wire_reader_raft) Try.func48 (by rw [e_wire_reader_raft]; exact h)


/-- (*penstock/wire.reader).batches -/
def S_wire_reader_batches (R : Value → World → Prop) (X : PX) (x0 : Option Addr) (w : World) : Prop :=
 CallX P F_wire_many_api_Batch [(.pointer x0), (.func (Go.Fn.func 66) #[(.pointer x0)] #[])] w (fun (v0 : Value) w1 =>
 TyP .sl v0 fun (s2 : Sl) =>
  R s2.v w1) X
def an_wire_reader_batches : Ann := ⟨[], [], []⟩
theorem e_wire_reader_batches (R : Value → World → Prop) (X : PX) (x0 : Option Addr) (w : World) : denFX P (some X) an_wire_reader_batches Try.f50 [.pointer x0] w R = S_wire_reader_batches R X x0 w := by kernel_rfl
theorem c_wire_reader_batches {R : Value → World → Prop} {X : PX} {x0 : Option Addr} {w : World} (h : S_wire_reader_batches R X x0 w) : CallX P F_wire_reader_batches [.pointer x0] w R X := calls_of_denFX (Px := some X) (an := an_wire_reader_batches) Try.func50 (by rw [e_wire_reader_batches]; exact h)


/-- (*penstock/wire.reader).client -/
def S_wire_reader_client (R : Value → World → Prop) (X : PX) (x0 : Option Addr) (x1 : Value) (w : World) : Prop :=
 RunK .addr P (Instr.box T_p_wire_reader (.pointer x0)) w fun (a0 : Addr) w1 =>
 RunK .addr P (Instr.box T_api_Msg x1) w1 fun (a2 : Addr) w3 =>
  RunK .addr P (Instr.alloc T_api_Msg true (.tuple #[])) w3 fun (a4 : Addr) w5 =>
   ∃ S6 : World → Prop, (S6 w5.drew) ∧
     HRun S6 .ptr P (Instr.loadAt T_p_wire_reader (.pointer (some a0))) fun (p7 : Option Addr) =>
      nilCk p7 fun (a8 : Addr) =>
       HRun S6 .ptr P (Instr.loadAt T_p_codec_Reader (.pointer (some (a8.add 0)))) fun (p9 : Option Addr) =>
        HRun S6 .ptr P (Instr.loadAt T_p_wire_reader (.pointer (some a0))) fun (p10 : Option Addr) =>
         nilCk p10 fun (a11 : Addr) =>
          HRun S6 .ptr P (Instr.loadAt T_p_codec_Reader (.pointer (some (a11.add 0)))) fun (p12 : Option Addr) =>
           HRun S6 .ptr P (Instr.loadAt T_p_wire_reader (.pointer (some a0))) fun (p13 : Option Addr) =>
            nilCk p13 fun (a14 : Addr) =>
             HRun S6 .ptr P (Instr.loadAt T_p_codec_Reader (.pointer (some (a14.add 0)))) fun (p15 : Option Addr) =>
              HRun S6 .ptr P (Instr.loadAt T_p_wire_reader (.pointer (some a0))) fun (p16 : Option Addr) =>
               nilCk p16 fun (a17 : Addr) =>
                HRun S6 .ptr P (Instr.loadAt T_p_codec_Reader (.pointer (some (a17.add 0)))) fun (p18 : Option Addr) =>
                HRun S6 .ptr P (Instr.loadAt T_p_wire_reader (.pointer (some a0))) fun (p19 : Option Addr) =>
                nilCk p19 fun (a20 : Addr) =>
                HRun S6 .ptr P (Instr.loadAt T_p_codec_Reader (.pointer (some (a20.add 0)))) fun (p21 : Option Addr) =>
                CallX P F_codec_Reader_Int [(.pointer p9)] w5.drew (fun (v22 : Value) w23 =>
                TyP (.int .i64) v22 fun (n24 : Int) =>
                (S6 w23) ∧
                CallX P F_codec_Reader_Int [(.pointer p12)] w23 (fun (v25 : Value) w26 =>
                TyP (.int .i64) v25 fun (n27 : Int) =>
                (S6 w26) ∧
                CallX P F_codec_Reader_Int [(.pointer p15)] w26 (fun (v28 : Value) w29 =>
                TyP (.int .i64) v28 fun (n30 : Int) =>
                (S6 w29) ∧
                CallX P F_codec_Reader_Int [(.pointer p18)] w29 (fun (v31 : Value) w32 =>
                TyP (.int .i64) v31 fun (n33 : Int) =>
                (S6 w32) ∧
                CallX P F_codec_Reader_Int [(.pointer p21)] w32 (fun (v34 : Value) w35 =>
                TyP (.int .i64) v34 fun (n36 : Int) =>
                (S6 w35) ∧
                StoreP P T_int (.pointer (some (Go.Addr.add a2 45))) (.int .i64 n24) w35 fun w37 =>
                (S6 w37) ∧
                StoreP P T_int (.pointer (some (Go.Addr.add a2 46))) (.int .i64 n27) w37 fun w38 =>
                (S6 w38) ∧
                StoreP P T_int (.pointer (some (Go.Addr.add a2 47))) (.int .i64 n30) w38 fun w39 =>
                (S6 w39) ∧
                StoreP P T_int (.pointer (some (Go.Addr.add a2 48))) (.int .i64 n33) w39 fun w40 =>
                (S6 w40) ∧
                StoreP P T_int (.pointer (some (Go.Addr.add a2 50))) (.int .i64 n36) w40 fun w41 =>
                (S6 w41) ∧
                ∃ S42 : World → Prop, (S42 w41.drew) ∧
                HRun S42 .ptr P (Instr.loadAt T_p_wire_reader (.pointer (some a0))) fun (p43 : Option Addr) =>
                nilCk p43 fun (a44 : Addr) =>
                HRun S42 .ptr P (Instr.loadAt T_p_codec_Reader (.pointer (some (a44.add 0)))) fun (p45 : Option Addr) =>
                HRun S42 .ptr P (Instr.loadAt T_p_wire_reader (.pointer (some a0))) fun (p46 : Option Addr) =>
                nilCk p46 fun (a47 : Addr) =>
                HRun S42 .ptr P (Instr.loadAt T_p_codec_Reader (.pointer (some (a47.add 0)))) fun (p48 : Option Addr) =>
                HRun S42 .ptr P (Instr.loadAt T_p_wire_reader (.pointer (some a0))) fun (p49 : Option Addr) =>
                nilCk p49 fun (a50 : Addr) =>
                HRun S42 .ptr P (Instr.loadAt T_p_codec_Reader (.pointer (some (a50.add 0)))) fun (p51 : Option Addr) =>
                HRun S42 .ptr P (Instr.loadAt T_p_wire_reader (.pointer (some a0))) fun (p52 : Option Addr) =>
                nilCk p52 fun (a53 : Addr) =>
                HRun S42 .ptr P (Instr.loadAt T_p_codec_Reader (.pointer (some (a53.add 0)))) fun (p54 : Option Addr) =>
                CallX P F_codec_Reader_Int [(.pointer p45)] w41.drew (fun (v55 : Value) w56 =>
                TyP (.int .i64) v55 fun (n57 : Int) =>
                (S42 w56) ∧
                CallX P F_codec_Reader_Int [(.pointer p48)] w56 (fun (v58 : Value) w59 =>
                TyP (.int .i64) v58 fun (n60 : Int) =>
                (S42 w59) ∧
                CallX P F_codec_Reader_Int [(.pointer p51)] w59 (fun (v61 : Value) w62 =>
                TyP (.int .i64) v61 fun (n63 : Int) =>
                (S42 w62) ∧
                CallX P F_codec_Reader_Int [(.pointer p54)] w62 (fun (v64 : Value) w65 =>
                TyP (.int .i64) v64 fun (n66 : Int) =>
                (S42 w65) ∧
                StoreP P T_int (.pointer (some (Go.Addr.add a2 52))) (.int .i64 n57) w65 fun w67 =>
                (S42 w67) ∧
                StoreP P T_int (.pointer (some (Go.Addr.add a2 53))) (.int .i64 n60) w67 fun w68 =>
                (S42 w68) ∧
                StoreP P T_int (.pointer (some (Go.Addr.add a2 54))) (.int .i64 n63) w68 fun w69 =>
                (S42 w69) ∧
                StoreP P T_int (.pointer (some (Go.Addr.add a2 58))) (.int .i64 n66) w69 fun w70 =>
                (S42 w70) ∧
                ∃ S71 : World → Prop, (S71 w70.drew) ∧
                HRun S71 .ptr P (Instr.loadAt T_p_wire_reader (.pointer (some a0))) fun (p72 : Option Addr) =>
                nilCk p72 fun (a73 : Addr) =>
                HRun S71 .ptr P (Instr.loadAt T_p_codec_Reader (.pointer (some (a73.add 0)))) fun (p74 : Option Addr) =>
                HRun S71 .ptr P (Instr.loadAt T_p_wire_reader (.pointer (some a0))) fun (p75 : Option Addr) =>
                nilCk p75 fun (a76 : Addr) =>
                HRun S71 .ptr P (Instr.loadAt T_p_codec_Reader (.pointer (some (a76.add 0)))) fun (p77 : Option Addr) =>
                HRun S71 .ptr P (Instr.loadAt T_p_wire_reader (.pointer (some a0))) fun (p78 : Option Addr) =>
                nilCk p78 fun (a79 : Addr) =>
                HRun S71 .ptr P (Instr.loadAt T_p_codec_Reader (.pointer (some (a79.add 0)))) fun (p80 : Option Addr) =>
                CallX P F_codec_Reader_Uint [(.pointer p74)] w70.drew (fun (v81 : Value) w82 =>
                TyP (.int .u64) v81 fun (n83 : Int) =>
                (S71 w82) ∧
                CallX P F_codec_Reader_Flag [(.pointer p77)] w82 (fun (v84 : Value) w85 =>
                TyP .bool v84 fun (b86 : Bool) =>
                (S71 w85) ∧
                CallX P F_codec_Reader_Ints [(.pointer p80)] w85 (fun (v87 : Value) w88 =>
                TyP .sl v87 fun (s89 : Sl) =>
                (S71 w88) ∧
                StoreP P T_uint64 (.pointer (some (Go.Addr.add a2 49))) (.int .u64 n83) w88 fun w90 =>
                (S71 w90) ∧
                StoreP P T_bool (.pointer (some (Go.Addr.add a2 51))) (.bool b86) w90 fun w91 =>
                (S71 w91) ∧
                StoreP P T_sl_int (.pointer (some (Go.Addr.add a2 55))) s89.v w91 fun w92 =>
                (S71 w92) ∧
                JoinP (T := Unit) (fun J93 =>
                RunQ .sl P (Instr.loadAt T_sl_int (.pointer (some (Go.Addr.add a2 55)))) w92 fun (s96 : Sl) =>
                ifB (decide ((↑s96.len : Int) > 512))
                (RunQ .ptr P (Instr.loadAt T_p_wire_reader (.pointer (some a0))) w92 fun (p97 : Option Addr) =>
                CallX P F_wire_reader_fail [(.pointer p97), (.int .i64 2)] w92 (fun (v98 : Value) w99 =>
                TupP [] v98 fun (t100 : Unit) =>
                J93 (some ()) w99) X)
                (J93 (some ()) w92))
                fun t94 w95 =>
                ∃ S101 : World → Prop, (S101 w95.drew) ∧
                HRun S101 .ptr P (Instr.loadAt T_p_wire_reader (.pointer (some a0))) fun (p102 : Option Addr) =>
                HRun S101 .ptr P (Instr.loadAt T_p_wire_reader (.pointer (some a0))) fun (p103 : Option Addr) =>
                CallX P F_wire_reader_batch [(.pointer p102)] w95.drew (fun (v104 : Value) w105 =>
                TyP .val v104 fun (v106 : Value) =>
                (S101 w105) ∧
                CallX P F_wire_reader_batches [(.pointer p103)] w105 (fun (v107 : Value) w108 =>
                TyP .sl v107 fun (s109 : Sl) =>
                (S101 w108) ∧
                StoreP P T_api_Batch (.pointer (some (Go.Addr.add a2 36))) v106 w108 fun w110 =>
                (S101 w110) ∧
                StoreP P T_sl_api_Batch (.pointer (some (Go.Addr.add a2 56))) s109.v w110 fun w111 =>
                (S101 w111) ∧
                RunQ .ptr P (Instr.loadAt T_p_wire_reader (.pointer (some a0))) w111 fun (p112 : Option Addr) =>
                CallX P F_wire_many_api_Abort [(.pointer p112), (.func (Go.Fn.func 69) #[] #[(.pointer (some a0))])] w111 (fun (v113 : Value) w114 =>
                TyP .sl v113 fun (s115 : Sl) =>
                StoreP P T_sl_api_Abort (.pointer (some (Go.Addr.add a2 57))) s115.v w114 fun w116 =>
                RunQ .val P (Instr.loadAt T_api_Msg (.pointer (some a2))) w116 fun (v117 : Value) =>
                StoreP P T_api_Msg (.pointer (some a4)) v117 w116 fun w118 =>
                LoadK .val P T_api_Msg (.pointer (some a4)) w118 fun (v119 : Value) =>
                R v119 w118) X) X) X) X) X) X) X) X) X) X) X) X) X) X) X
def an_wire_reader_client : Ann := ⟨[(6, [])], [], []⟩
theorem e_wire_reader_client (R : Value → World → Prop) (X : PX) (x0 : Option Addr) (x1 : Value) (w : World) : denFX P (some X) an_wire_reader_client Try.f53 [.pointer x0, x1] w R = S_wire_reader_client R X x0 x1 w := by kernel_rfl
theorem c_wire_reader_client {R : Value → World → Prop} {X : PX} {x0 : Option Addr} {x1 : Value} {w : World} (h : S_wire_reader_client R X x0 x1 w) : CallX P F_wire_reader_client [.pointer x0, x1] w R X := calls_of_denFX (Px := some X) (an := an_wire_reader_client) Try.func53 (by rw [e_wire_reader_client]; exact h)


/-- penstock/wire.many[penstock/api.Entry] -/
def S_wire_many_api_Entry (R : Value → World → Prop) (X : PX) (x0 : Option Addr) (x1 : Value) (w : World) : Prop :=
 CallX P F_wire_reader_count [(.pointer x0)] w (fun (v0 : Value) w1 =>
 TyP (.int .i64) v0 fun (n2 : Int) =>
  LoopP (T := Sl × Int × Unit) (some (⟨none, 0, 0⟩, (0, ()))) w1 fun next3 t4 w5 =>
   ifB (decide (t4.snd.fst < n2))
    (DynX P (Pk.callV x1 #[]) w5 (fun (v6 : Value) w7 =>
     TyP .val v6 fun (v8 : Value) =>
      RunK .sl P (Instr.buildSlice T_sl_api_Entry 1 #[(0, v8)]) w7 fun (s9 : Sl) w10 =>
       RunK .sl P (Builtin.append_ #[T_sl_api_Entry, T_sl_api_Entry] T_sl_api_Entry #[t4.fst.v, s9.v]) w10 fun (s11 : Sl) w12 =>
        next3 (some (s11, ((IntKind.i64.wrap (t4.snd.fst + 1)), ()))) w12) X)
    (R t4.fst.v w5)) X
def an_wire_many_api_Entry : Ann := ⟨[], [(3, [(5, .sl), (8, (.int .i64))])], []⟩
theorem e_wire_many_api_Entry (R : Value → World → Prop) (X : PX) (x0 : Option Addr) (x1 : Value) (w : World) : denFX P (some X) an_wire_many_api_Entry Try.f62 [.pointer x0, x1] w R = S_wire_many_api_Entry R X x0 x1 w := by kernel_rfl
theorem c_wire_many_api_Entry {R : Value → World → Prop} {X : PX} {x0 : Option Addr} {x1 : Value} {w : World} (h : S_wire_many_api_Entry R X x0 x1 w) : CallX P F_wire_many_api_Entry [.pointer x0, x1] w R X := calls_of_denFX (Px := some X) (an := an_wire_many_api_Entry) Try.func62 (by rw [e_wire_many_api_Entry]; exact h)


/-- (*penstock/wire.reader).raft$1 -/
def S_wire_reader_raft_1 (R : Value → World → Prop) (X : PX) (x0 : Addr) (w : World) : Prop :=
 RunK .addr P (Instr.alloc T_api_Entry true (.tuple #[])) w fun (a0 : Addr) w1 =>
 ∃ S2 : World → Prop, (S2 w1.drew) ∧
   HRun S2 .ptr P (Instr.loadAt T_p_wire_reader (.pointer (some x0))) fun (p3 : Option Addr) =>
    nilCk p3 fun (a4 : Addr) =>
     HRun S2 .ptr P (Instr.loadAt T_p_codec_Reader (.pointer (some (a4.add 0)))) fun (p5 : Option Addr) =>
      HRun S2 .ptr P (Instr.loadAt T_p_wire_reader (.pointer (some x0))) fun (p6 : Option Addr) =>
       nilCk p6 fun (a7 : Addr) =>
        HRun S2 .ptr P (Instr.loadAt T_p_codec_Reader (.pointer (some (a7.add 0)))) fun (p8 : Option Addr) =>
         CallX P F_codec_Reader_Int [(.pointer p5)] w1.drew (fun (v9 : Value) w10 =>
          TyP (.int .i64) v9 fun (n11 : Int) =>
           (S2 w10) ∧
            CallX P F_codec_Reader_Bytes [(.pointer p8)] w10 (fun (v12 : Value) w13 =>
             TyP .sl v12 fun (s14 : Sl) =>
              (S2 w13) ∧
               StoreP P T_api_Entry (.pointer (some a0)) (.agg #[(.int .i64 n11), s14.v]) w13 fun w15 =>
                (S2 w15) ∧
                LoadK .val P T_api_Entry (.pointer (some a0)) w15 fun (v16 : Value) =>
                R v16 w15) X) X
def an_wire_reader_raft_1 : Ann := ⟨[], [], []⟩
theorem e_wire_reader_raft_1 (R : Value → World → Prop) (X : PX) (x0 : Addr) (w : World) : denFX P (some X) an_wire_reader_raft_1 Try.f63 [.pointer (some x0)] w R = S_wire_reader_raft_1 R X x0 w := by kernel_rfl
theorem c_wire_reader_raft_1 {R : Value → World → Prop} {X : PX} {x0 : Addr} {w : World} (h : S_wire_reader_raft_1 R X x0 w) : CallX P F_wire_reader_raft_1 [.pointer (some x0)] w R X := calls_of_denFX (Px := some X) (an := an_wire_reader_raft_1) Try.func63 (by rw [e_wire_reader_raft_1]; exact h)


/-- penstock/wire.many[penstock/api.Batch] -/
def S_wire_many_api_Batch (R : Value → World → Prop) (X : PX) (x0 : Option Addr) (x1 : Value) (w : World) : Prop :=
 CallX P F_wire_reader_count [(.pointer x0)] w (fun (v0 : Value) w1 =>
 TyP (.int .i64) v0 fun (n2 : Int) =>
  LoopP (T := Sl × Int × Unit) (some (⟨none, 0, 0⟩, (0, ()))) w1 fun next3 t4 w5 =>
   ifB (decide (t4.snd.fst < n2))
    (DynX P (Pk.callV x1 #[]) w5 (fun (v6 : Value) w7 =>
     TyP .val v6 fun (v8 : Value) =>
      RunK .sl P (Instr.buildSlice T_sl_api_Batch 1 #[(0, v8)]) w7 fun (s9 : Sl) w10 =>
       RunK .sl P (Builtin.append_ #[T_sl_api_Batch, T_sl_api_Batch] T_sl_api_Batch #[t4.fst.v, s9.v]) w10 fun (s11 : Sl) w12 =>
        next3 (some (s11, ((IntKind.i64.wrap (t4.snd.fst + 1)), ()))) w12) X)
    (R t4.fst.v w5)) X
def an_wire_many_api_Batch : Ann := ⟨[], [(3, [(5, .sl), (8, (.int .i64))])], []⟩
theorem e_wire_many_api_Batch (R : Value → World → Prop) (X : PX) (x0 : Option Addr) (x1 : Value) (w : World) : denFX P (some X) an_wire_many_api_Batch Try.f65 [.pointer x0, x1] w R = S_wire_many_api_Batch R X x0 x1 w := by kernel_rfl
theorem c_wire_many_api_Batch {R : Value → World → Prop} {X : PX} {x0 : Option Addr} {x1 : Value} {w : World} (h : S_wire_many_api_Batch R X x0 x1 w) : CallX P F_wire_many_api_Batch [.pointer x0, x1] w R X := calls_of_denFX (Px := some X) (an := an_wire_many_api_Batch) Try.func65 (by rw [e_wire_many_api_Batch]; exact h)


/-- (*penstock/wire.reader).batch -/
def S_wire_reader_batch (R : Value → World → Prop) (X : PX) (x0 : Option Addr) (w : World) : Prop :=
 RunK .addr P (Instr.alloc T_api_Batch true (.tuple #[])) w fun (a0 : Addr) w1 =>
 nilCk x0 fun (a2 : Addr) =>
  RunQ .ptr P (Instr.loadAt T_p_codec_Reader (.pointer (some (a2.add 0)))) w1 fun (p3 : Option Addr) =>
   CallX P F_codec_Reader_Bytes [(.pointer p3)] w1 (fun (v4 : Value) w5 =>
    TyP .sl v4 fun (s6 : Sl) =>
     ifB ((↑s6.len : Int) == 0)
      (StoreP P T_api_Batch (.pointer (some a0)) (.agg #[(.int .i64 0), (.int .i64 0), (.int .u64 0), (.int .i64 0), (.int .i64 0), (.bool false), (.bool false), (.bool false), (.slice none 0 0)]) w5 fun w7 =>
       LoadK .val P T_api_Batch (.pointer (some a0)) w7 fun (v8 : Value) =>
        R v8 w7)
      (CallX P F_batch_Decode [s6.v] w5 (fun (v9 : Value) w10 =>
       TupP [.val, (.int .i64)] v9 fun (t11 : Value × Int × Unit) =>
        RunK .addr P (Instr.alloc T_api_Batch true (.tuple #[])) w10 fun (a12 : Addr) w13 =>
         StoreP P T_api_Batch (.pointer (some a12)) t11.1 w13 fun w14 =>
          ifB (t11.snd.fst != 0)
           (CallX P F_wire_reader_fail [(.pointer x0), (.int .i64 t11.snd.fst)] w14 (fun (v15 : Value) w16 =>
            TupP [] v15 fun (t17 : Unit) =>
             RunQ .val P (Instr.loadAt T_api_Batch (.pointer (some a12))) w16 fun (v18 : Value) =>
              StoreP P T_api_Batch (.pointer (some a0)) v18 w16 fun w19 =>
               LoadK .val P T_api_Batch (.pointer (some a0)) w19 fun (v20 : Value) =>
                R v20 w19) X)
           (RunQ .val P (Instr.loadAt T_api_Batch (.pointer (some a12))) w14 fun (v21 : Value) =>
            StoreP P T_api_Batch (.pointer (some a0)) v21 w14 fun w22 =>
             LoadK .val P T_api_Batch (.pointer (some a0)) w22 fun (v23 : Value) =>
              R v23 w22)) X)) X
def an_wire_reader_batch : Ann := ⟨[], [], []⟩
theorem e_wire_reader_batch (R : Value → World → Prop) (X : PX) (x0 : Option Addr) (w : World) : denFX P (some X) an_wire_reader_batch Try.f66 [.pointer x0] w R = S_wire_reader_batch R X x0 w := by kernel_rfl
theorem c_wire_reader_batch {R : Value → World → Prop} {X : PX} {x0 : Option Addr} {w : World} (h : S_wire_reader_batch R X x0 w) : CallX P F_wire_reader_batch [.pointer x0] w R X := calls_of_denFX (Px := some X) (an := an_wire_reader_batch) Try.func66 (by rw [e_wire_reader_batch]; exact h)


/-- penstock/wire.many[penstock/api.Abort] -/
def S_wire_many_api_Abort (R : Value → World → Prop) (X : PX) (x0 : Option Addr) (x1 : Value) (w : World) : Prop :=
 CallX P F_wire_reader_count [(.pointer x0)] w (fun (v0 : Value) w1 =>
 TyP (.int .i64) v0 fun (n2 : Int) =>
  LoopP (T := Sl × Int × Unit) (some (⟨none, 0, 0⟩, (0, ()))) w1 fun next3 t4 w5 =>
   ifB (decide (t4.snd.fst < n2))
    (DynX P (Pk.callV x1 #[]) w5 (fun (v6 : Value) w7 =>
     TyP .val v6 fun (v8 : Value) =>
      RunK .sl P (Instr.buildSlice T_sl_api_Abort 1 #[(0, v8)]) w7 fun (s9 : Sl) w10 =>
       RunK .sl P (Builtin.append_ #[T_sl_api_Abort, T_sl_api_Abort] T_sl_api_Abort #[t4.fst.v, s9.v]) w10 fun (s11 : Sl) w12 =>
        next3 (some (s11, ((IntKind.i64.wrap (t4.snd.fst + 1)), ()))) w12) X)
    (R t4.fst.v w5)) X
def an_wire_many_api_Abort : Ann := ⟨[], [(3, [(5, .sl), (8, (.int .i64))])], []⟩
theorem e_wire_many_api_Abort (R : Value → World → Prop) (X : PX) (x0 : Option Addr) (x1 : Value) (w : World) : denFX P (some X) an_wire_many_api_Abort Try.f68 [.pointer x0, x1] w R = S_wire_many_api_Abort R X x0 x1 w := by kernel_rfl
theorem c_wire_many_api_Abort {R : Value → World → Prop} {X : PX} {x0 : Option Addr} {x1 : Value} {w : World} (h : S_wire_many_api_Abort R X x0 x1 w) : CallX P F_wire_many_api_Abort [.pointer x0, x1] w R X := calls_of_denFX (Px := some X) (an := an_wire_many_api_Abort) Try.func68 (by rw [e_wire_many_api_Abort]; exact h)


/-- (*penstock/wire.reader).client$1 -/
def S_wire_reader_client_1 (R : Value → World → Prop) (X : PX) (x0 : Addr) (w : World) : Prop :=
 RunK .addr P (Instr.alloc T_api_Abort true (.tuple #[])) w fun (a0 : Addr) w1 =>
 ∃ S2 : World → Prop, (S2 w1.drew) ∧
   HRun S2 .ptr P (Instr.loadAt T_p_wire_reader (.pointer (some x0))) fun (p3 : Option Addr) =>
    nilCk p3 fun (a4 : Addr) =>
     HRun S2 .ptr P (Instr.loadAt T_p_codec_Reader (.pointer (some (a4.add 0)))) fun (p5 : Option Addr) =>
      HRun S2 .ptr P (Instr.loadAt T_p_wire_reader (.pointer (some x0))) fun (p6 : Option Addr) =>
       nilCk p6 fun (a7 : Addr) =>
        HRun S2 .ptr P (Instr.loadAt T_p_codec_Reader (.pointer (some (a7.add 0)))) fun (p8 : Option Addr) =>
         HRun S2 .ptr P (Instr.loadAt T_p_wire_reader (.pointer (some x0))) fun (p9 : Option Addr) =>
          nilCk p9 fun (a10 : Addr) =>
           HRun S2 .ptr P (Instr.loadAt T_p_codec_Reader (.pointer (some (a10.add 0)))) fun (p11 : Option Addr) =>
            CallX P F_codec_Reader_Uint [(.pointer p5)] w1.drew (fun (v12 : Value) w13 =>
             TyP (.int .u64) v12 fun (n14 : Int) =>
              (S2 w13) ∧
               CallX P F_codec_Reader_Int [(.pointer p8)] w13 (fun (v15 : Value) w16 =>
                TyP (.int .i64) v15 fun (n17 : Int) =>
                (S2 w16) ∧
                CallX P F_codec_Reader_Int [(.pointer p11)] w16 (fun (v18 : Value) w19 =>
                TyP (.int .i64) v18 fun (n20 : Int) =>
                (S2 w19) ∧
                StoreP P T_api_Abort (.pointer (some a0)) (.agg #[(.int .u64 n14), (.int .i64 n17), (.int .i64 n20)]) w19 fun w21 =>
                (S2 w21) ∧
                LoadK .val P T_api_Abort (.pointer (some a0)) w21 fun (v22 : Value) =>
                R v22 w21) X) X) X
def an_wire_reader_client_1 : Ann := ⟨[], [], []⟩
theorem e_wire_reader_client_1 (R : Value → World → Prop) (X : PX) (x0 : Addr) (w : World) : denFX P (some X) an_wire_reader_client_1 Try.f69 [.pointer (some x0)] w R = S_wire_reader_client_1 R X x0 w := by kernel_rfl
theorem c_wire_reader_client_1 {R : Value → World → Prop} {X : PX} {x0 : Addr} {w : World} (h : S_wire_reader_client_1 R X x0 w) : CallX P F_wire_reader_client_1 [.pointer (some x0)] w R X := calls_of_denFX (Px := some X) (an := an_wire_reader_client_1) Try.func69 (by rw [e_wire_reader_client_1]; exact h)


/-- (*penstock/wire.reader).count -/
def S_wire_reader_count (R : Value → World → Prop) (X : PX) (x0 : Option Addr) (w : World) : Prop :=
 nilCk x0 fun (a0 : Addr) =>
 RunQ .ptr P (Instr.loadAt T_p_codec_Reader (.pointer (some (a0.add 0)))) w fun (p1 : Option Addr) =>
  CallX P F_codec_Reader_Uint [(.pointer p1)] w (fun (v2 : Value) w3 =>
   TyP (.int .u64) v2 fun (n4 : Int) =>
    ifB (decide (n4 > 512))
     (CallX P F_wire_reader_fail [(.pointer x0), (.int .i64 2)] w3 (fun (v5 : Value) w6 =>
      TupP [] v5 fun (t7 : Unit) =>
       R (.int .i64 0) w6) X)
     (R (.int .i64 (IntKind.i64.wrap n4)) w3)) X
def an_wire_reader_count : Ann := ⟨[], [], []⟩
theorem e_wire_reader_count (R : Value → World → Prop) (X : PX) (x0 : Option Addr) (w : World) : denFX P (some X) an_wire_reader_count Try.f71 [.pointer x0] w R = S_wire_reader_count R X x0 w := by kernel_rfl
theorem c_wire_reader_count {R : Value → World → Prop} {X : PX} {x0 : Option Addr} {w : World} (h : S_wire_reader_count R X x0 w) : CallX P F_wire_reader_count [.pointer x0] w R X := calls_of_denFX (Px := some X) (an := an_wire_reader_count) Try.func71 (by rw [e_wire_reader_count]; exact h)

end Go.Proofs.Ytokogdigfohbeaa
