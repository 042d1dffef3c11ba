/- The functions of the program as predicates over worlds, written by a program of mine (PkPrint); each is held against the code by the kernel. -/
import Derived.Test.YtnjadekngjgjcaaGreatDoorN
namespace Go.Proofs.YtnjadekngjgjcaaGreatDoor
open Go Go.Pk
/-- penstock/disk.New -/
def S_disk_New (R : Value → World → Prop) (w : World) : Prop :=
 RunK .map P (Instr.makeMap T_map_string_p_disk_file none) w fun (m0 : Option Nat) w1 =>
 RunK .addr P (Instr.box T_disk_Disk (.agg #[(.map m0), (.int .i64 (-1)), (.bool false), (.int .i64 0)])) w1 fun (a2 : Addr) w3 =>
 R (.pointer (some a2)) w3
theorem c_disk_New {R : Value → World → Prop} {w : World} (h : S_disk_New R  w) : CallP P F_disk_New [] w R := mkC (an := ⟨[], [], []⟩) Tryz.func12 (by kernel_rfl) h


/-- (*penstock/disk.Disk).Names -/
def S_disk_Disk_Names (R : Value → World → Prop) (x0 : Option Addr) (w : World) : Prop :=
 ifB (Option.isNone x0)
 (R (.slice none 0 0) w)
 (nilCk x0 fun (a0 : Addr) =>
 RunQ .map P (Instr.loadAt T_map_string_p_disk_file (.pointer (some (a0.add 0)))) w fun (m1 : Option Nat) =>
 RunK .addr P (Instr.range T_map_string_p_disk_file (.map m1)) w fun (a2 : Addr) w3 =>
 LoopP (T := Sl × Unit) (some (⟨none, 0, 0⟩, ())) w3 fun next4 t5 w6 =>
 NextP P (Instr.next (.pointer (some a2)) false 0) w6 (fun w10 =>
 CallP P F_slices_Sort_string_string [t5.fst.v] w10 fun (v11 : Value) w12 =>
 TupP [] v11 fun (t13 : Unit) =>
 R t5.fst.v w12) fun (v7 v8 : Value) w9 =>
 TyP .val v7 fun (v14 : Value) =>
 TyP .val v8 fun (v15 : Value) =>
 RunV P (Instr.entry (.pointer (some a2))) w9 fun (v16 : Value) w17 =>
 EntP (.str, .val) v16 fun (t18 : ByteArray) (v19 : Value) =>
 RunK .sl P (Instr.buildSlice T_sl_string 1 #[(0, (.string t18))]) w17 fun (s20 : Sl) w21 =>
 RunK .sl P (Builtin.append_ #[T_sl_string, T_sl_string] T_sl_string #[t5.fst.v, s20.v]) w21 fun (s22 : Sl) w23 =>
 next4 (some (s22, ())) w23)
theorem c_disk_Disk_Names {R : Value → World → Prop} {x0 : Option Addr} {w : World} (h : S_disk_Disk_Names R x0 w) : CallP P F_disk_Disk_Names [.pointer x0] w R := mkC (an := ⟨[], [(5, [(3, .sl)])], []⟩) Tryz.func80 (by kernel_rfl) h


/-- (*penstock/disk.Disk).Read -/
def S_disk_Disk_Read (R : Value → World → Prop) (x0 : Option Addr) (x1 : ByteArray) (w : World) : Prop :=
 CallP P F_disk_Disk_find [(.pointer x0), (.string x1)] w fun (v0 : Value) w1 =>
 TupP [.ptr, (.int .i64)] v0 fun (t2 : Option Addr × Int × Unit) =>
 ifB (t2.snd.fst != 0)
 (R (.tuple #[(.slice none 0 0), (.int .i64 t2.snd.fst)]) w1)
 (nilCk t2.fst fun (a3 : Addr) =>
 RunQ .sl P (Instr.loadAt T_sl_uint8 (.pointer (some (a3.add 0)))) w1 fun (s4 : Sl) =>
 RunK .sl P (Builtin.append_ #[T_sl_uint8, T_sl_uint8] T_sl_uint8 #[(.slice none 0 0), s4.v]) w1 fun (s5 : Sl) w6 =>
 R (.tuple #[s5.v, (.int .i64 0)]) w6)
theorem c_disk_Disk_Read {R : Value → World → Prop} {x0 : Option Addr} {x1 : ByteArray} {w : World} (h : S_disk_Disk_Read R x0 x1 w) : CallP P F_disk_Disk_Read [.pointer x0, .string x1] w R := mkC (an := ⟨[], [], []⟩) Tryz.func120 (by kernel_rfl) h


/-- (*penstock/disk.Disk).Append -/
def S_disk_Disk_Append (R : Value → World → Prop) (x0 : Option Addr) (x1 : ByteArray) (x2 : Sl) (w : World) : Prop :=
 CallP P F_disk_Disk_state [(.pointer x0)] w fun (v0 : Value) w1 =>
 TyP (.int .i64) v0 fun (n2 : Int) =>
 ifB (n2 != 0)
 (R (.int .i64 n2) w1)
 (nilCk x0 fun (a3 : Addr) =>
 RunQ .map P (Instr.loadAt T_map_string_p_disk_file (.pointer (some (a3.add 0)))) w1 fun (m4 : Option Nat) =>
 RunV P (Instr.lookup T_map_string_p_disk_file (.map m4) (.string x1) false) w1 fun (v5 : Value) w6 =>
 TyP .ptr v5 fun (p7 : Option Addr) =>
 JoinP (T := Option Addr × Unit) (fun J8 =>
 ifB (ByteArray.toList x1 == (ByteArray.mk #[]).toList)
 (R (.int .i64 1) w6)
 (ifB (decide ((↑(ByteArray.size x1) : Int) > 24))
 (R (.int .i64 1) w6)
 (nilCk x0 fun (a11 : Addr) =>
 RunQ (.int .i64) P (Instr.loadAt T_int (.pointer (some (a11.add 3)))) w6 fun (n12 : Int) =>
 ifB (decide ((↑x2.len : Int) > IntKind.i64.wrap (4194304 - n12)))
 (R (.int .i64 3) w6)
 (ifB (Option.isNone p7)
 (nilCk x0 fun (a13 : Addr) =>
 RunQ .map P (Instr.loadAt T_map_string_p_disk_file (.pointer (some (a13.add 0)))) w6 fun (m14 : Option Nat) =>
 RunQ (.int .i64) P (Builtin.len_ #[T_map_string_p_disk_file] T_int #[(.map m14)]) w6 fun (n15 : Int) =>
 ifB (n15 == 4096)
 (R (.int .i64 3) w6)
 (ifB (Option.isNone p7)
 (RunK .addr P (Instr.box T_disk_file (.agg #[(.slice none 0 0), (.int .i64 0)])) w6 fun (a16 : Addr) w17 =>
 nilCk x0 fun (a18 : Addr) =>
 RunQ .map P (Instr.loadAt T_map_string_p_disk_file (.pointer (some (a18.add 0)))) w17 fun (m19 : Option Nat) =>
 RunU P (Instr.mapUpdate T_map_string_p_disk_file (.map m19) (.string x1) (.pointer (some a16))) w17 fun w20 =>
 J8 (some ((some a16), ())) w20)
 (J8 (some (p7, ())) w6)))
 (ifB (Option.isNone p7)
 (RunK .addr P (Instr.box T_disk_file (.agg #[(.slice none 0 0), (.int .i64 0)])) w6 fun (a21 : Addr) w22 =>
 nilCk x0 fun (a23 : Addr) =>
 RunQ .map P (Instr.loadAt T_map_string_p_disk_file (.pointer (some (a23.add 0)))) w22 fun (m24 : Option Nat) =>
 RunU P (Instr.mapUpdate T_map_string_p_disk_file (.map m24) (.string x1) (.pointer (some a21))) w22 fun w25 =>
 J8 (some ((some a21), ())) w25)
 (J8 (some (p7, ())) w6))))))
 fun t9 w10 =>
 JoinP (T := Int × Unit) (fun J26 =>
 nilCk x0 fun (a29 : Addr) =>
 RunQ (.int .i64) P (Instr.loadAt T_int (.pointer (some (a29.add 1)))) w10 fun (n30 : Int) =>
 ifB (decide (n30 ≥ 0))
 (nilCk x0 fun (a31 : Addr) =>
 RunQ (.int .i64) P (Instr.loadAt T_int (.pointer (some (a31.add 1)))) w10 fun (n32 : Int) =>
 nilCk x0 fun (a33 : Addr) =>
 RunQ (.int .i64) P (Instr.loadAt T_int (.pointer (some (a33.add 1)))) w10 fun (n34 : Int) =>
 nilCk x0 fun (a35 : Addr) =>
 StoreP P T_int (.pointer (some (a35.add 1))) (.int .i64 (IntKind.i64.wrap (n34 - if n32 < (↑x2.len : Int) then n32 else (↑x2.len : Int)))) w10 fun w36 =>
 J26 (some ((if n32 < (↑x2.len : Int) then n32 else (↑x2.len : Int)), ())) w36)
 (J26 (some (((↑x2.len : Int)), ())) w10))
 fun t27 w28 =>
 ∃ S37 : World → Prop, (S37 w28.drew) ∧
 nilCk t9.fst fun (a38 : Addr) =>
 HRun S37 .sl P (Instr.sliceAt T_sl_uint8 x2.v none (some (.int .i64 t27.fst)) none) fun (s39 : Sl) =>
 RunQ .sl P (Instr.loadAt T_sl_uint8 (.pointer (some (a38.add 0)))) w28.drew fun (s40 : Sl) =>
 (S37 w28.drew) ∧
 RunK .sl P (Builtin.append_ #[T_sl_uint8, T_sl_uint8] T_sl_uint8 #[s40.v, s39.v]) w28.drew fun (s41 : Sl) w42 =>
 (S37 w42) ∧
 nilCk t9.fst fun (a43 : Addr) =>
 StoreP P T_sl_uint8 (.pointer (some (a43.add 0))) s41.v w42 fun w44 =>
 (S37 w44) ∧
 nilCk x0 fun (a45 : Addr) =>
 RunQ (.int .i64) P (Instr.loadAt T_int (.pointer (some (a45.add 3)))) w44 fun (n46 : Int) =>
 nilCk x0 fun (a47 : Addr) =>
 StoreP P T_int (.pointer (some (a47.add 3))) (.int .i64 (IntKind.i64.wrap (n46 + t27.fst))) w44 fun w48 =>
 ifB (decide (t27.fst < (↑x2.len : Int)))
 (nilCk x0 fun (a49 : Addr) =>
 StoreP P T_bool (.pointer (some (a49.add 2))) (.bool true) w48 fun w50 =>
 R (.int .i64 9) w50)
 (R (.int .i64 0) w48))
theorem c_disk_Disk_Append {R : Value → World → Prop} {x0 : Option Addr} {x1 : ByteArray} {x2 : Sl} {w : World} (h : S_disk_Disk_Append R x0 x1 x2 w) : CallP P F_disk_Disk_Append [.pointer x0, .string x1, x2.v] w R := mkC (an := ⟨[(16, [(9, (.int .i64))]), (12, [(8, .ptr)])], [], [16]⟩) Tryz.func107 (by kernel_rfl) h


/-- (*penstock/disk.Disk).Size -/
def S_disk_Disk_Size (R : Value → World → Prop) (x0 : Option Addr) (x1 : ByteArray) (w : World) : Prop :=
 CallP P F_disk_Disk_find [(.pointer x0), (.string x1)] w fun (v0 : Value) w1 =>
 TupP [.ptr, (.int .i64)] v0 fun (t2 : Option Addr × Int × Unit) =>
 ifB (t2.snd.fst != 0)
 (R (.tuple #[(.int .i64 0), (.int .i64 0), (.int .i64 t2.snd.fst)]) w1)
 (nilCk t2.fst fun (a3 : Addr) =>
 RunQ .sl P (Instr.loadAt T_sl_uint8 (.pointer (some (a3.add 0)))) w1.drew fun (s4 : Sl) =>
 nilCk t2.fst fun (a5 : Addr) =>
 RunQ (.int .i64) P (Instr.loadAt T_int (.pointer (some (a5.add 1)))) w1.drew fun (n6 : Int) =>
 R (.tuple #[(.int .i64 ((↑s4.len : Int))), (.int .i64 n6), (.int .i64 0)]) w1.drew)
theorem c_disk_Disk_Size {R : Value → World → Prop} {x0 : Option Addr} {x1 : ByteArray} {w : World} (h : S_disk_Disk_Size R x0 x1 w) : CallP P F_disk_Disk_Size [.pointer x0, .string x1] w R := mkC (an := ⟨[], [], []⟩) Tryz.func124 (by kernel_rfl) h


/-- (*penstock/disk.Disk).Dead -/
def S_disk_Disk_Dead (R : Value → World → Prop) (x0 : Option Addr) (w : World) : Prop :=
 ifB (!Option.isNone x0)
 (nilCk x0 fun (a0 : Addr) =>
 RunQ .bool P (Instr.loadAt T_bool (.pointer (some (a0.add 2)))) w fun (b1 : Bool) =>
 R (.bool b1) w)
 (R (.bool false) w)
theorem c_disk_Disk_Dead {R : Value → World → Prop} {x0 : Option Addr} {w : World} (h : S_disk_Disk_Dead R x0 w) : CallP P F_disk_Disk_Dead [.pointer x0] w R := mkC (an := ⟨[], [], []⟩) Tryz.func78 (by kernel_rfl) h


/-- (*penstock/disk.Disk).Remove -/
def S_disk_Disk_Remove (R : Value → World → Prop) (x0 : Option Addr) (x1 : ByteArray) (w : World) : Prop :=
 CallP P F_disk_Disk_find [(.pointer x0), (.string x1)] w fun (v0 : Value) w1 =>
 TupP [.ptr, (.int .i64)] v0 fun (t2 : Option Addr × Int × Unit) =>
 ifB (t2.snd.fst == 0)
 (∃ S3 : World → Prop, (S3 w1.drew) ∧
 nilCk x0 fun (a4 : Addr) =>
 nilCk t2.fst fun (a5 : Addr) =>
 HRun S3 .sl P (Instr.loadAt T_sl_uint8 (.pointer (some (a5.add 0)))) fun (s6 : Sl) =>
 RunQ (.int .i64) P (Instr.loadAt T_int (.pointer (some (a4.add 3)))) w1.drew fun (n7 : Int) =>
 (S3 w1.drew) ∧
 nilCk x0 fun (a8 : Addr) =>
 StoreP P T_int (.pointer (some (a8.add 3))) (.int .i64 (IntKind.i64.wrap (n7 - (↑s6.len : Int)))) w1.drew fun w9 =>
 (S3 w9) ∧
 nilCk x0 fun (a10 : Addr) =>
 RunQ .map P (Instr.loadAt T_map_string_p_disk_file (.pointer (some (a10.add 0)))) w9 fun (m11 : Option Nat) =>
 RunV P (Builtin.delete_ #[T_map_string_p_disk_file, T_string] 0 #[(.map m11), (.string x1)]) w9 fun (v12 : Value) w13 =>
 R (.int .i64 t2.snd.fst) w13)
 (R (.int .i64 t2.snd.fst) w1)
theorem c_disk_Disk_Remove {R : Value → World → Prop} {x0 : Option Addr} {x1 : ByteArray} {w : World} (h : S_disk_Disk_Remove R x0 x1 w) : CallP P F_disk_Disk_Remove [.pointer x0, .string x1] w R := mkC (an := ⟨[], [], [3]⟩) Tryz.func85 (by kernel_rfl) h


/-- (*penstock/disk.Disk).find -/
def S_disk_Disk_find (R : Value → World → Prop) (x0 : Option Addr) (x1 : ByteArray) (w : World) : Prop :=
 CallP P F_disk_Disk_state [(.pointer x0)] w fun (v0 : Value) w1 =>
 TyP (.int .i64) v0 fun (n2 : Int) =>
 ifB (n2 != 0)
 (R (.tuple #[(.pointer none), (.int .i64 n2)]) w1)
 (nilCk x0 fun (a3 : Addr) =>
 RunQ .map P (Instr.loadAt T_map_string_p_disk_file (.pointer (some (a3.add 0)))) w1 fun (m4 : Option Nat) =>
 RunV P (Instr.lookup T_map_string_p_disk_file (.map m4) (.string x1) false) w1 fun (v5 : Value) w6 =>
 TyP .ptr v5 fun (p7 : Option Addr) =>
 ifB (Option.isNone p7)
 (R (.tuple #[(.pointer none), (.int .i64 4)]) w6)
 (R (.tuple #[(.pointer p7), (.int .i64 0)]) w6))
theorem c_disk_Disk_find {R : Value → World → Prop} {x0 : Option Addr} {x1 : ByteArray} {w : World} (h : S_disk_Disk_find R x0 x1 w) : CallP P F_disk_Disk_find [.pointer x0, .string x1] w R := mkC (an := ⟨[], [], []⟩) Tryz.func119 (by kernel_rfl) h


/-- (*penstock/disk.Disk).state -/
def S_disk_Disk_state (R : Value → World → Prop) (x0 : Option Addr) (w : World) : Prop :=
 ifB (Option.isNone x0)
 (R (.int .i64 5) w)
 (nilCk x0 fun (a0 : Addr) =>
 RunQ .bool P (Instr.loadAt T_bool (.pointer (some (a0.add 2)))) w fun (b1 : Bool) =>
 ifB b1
 (R (.int .i64 9) w)
 (R (.int .i64 0) w))
theorem c_disk_Disk_state {R : Value → World → Prop} {x0 : Option Addr} {w : World} (h : S_disk_Disk_state R x0 w) : CallP P F_disk_Disk_state [.pointer x0] w R := mkC (an := ⟨[], [], []⟩) Tryz.func135 (by kernel_rfl) h


/-- (*penstock/disk.Disk).Sync -/
def S_disk_Disk_Sync (R : Value → World → Prop) (x0 : Option Addr) (x1 : ByteArray) (w : World) : Prop :=
 CallP P F_disk_Disk_find [(.pointer x0), (.string x1)] w fun (v0 : Value) w1 =>
 TupP [.ptr, (.int .i64)] v0 fun (t2 : Option Addr × Int × Unit) =>
 ifB (t2.snd.fst == 0)
 (nilCk t2.fst fun (a3 : Addr) =>
 RunQ .sl P (Instr.loadAt T_sl_uint8 (.pointer (some (a3.add 0)))) w1 fun (s4 : Sl) =>
 nilCk t2.fst fun (a5 : Addr) =>
 StoreP P T_int (.pointer (some (a5.add 1))) (.int .i64 ((↑s4.len : Int))) w1 fun w6 =>
 R (.int .i64 t2.snd.fst) w6)
 (R (.int .i64 t2.snd.fst) w1)
theorem c_disk_Disk_Sync {R : Value → World → Prop} {x0 : Option Addr} {x1 : ByteArray} {w : World} (h : S_disk_Disk_Sync R x0 x1 w) : CallP P F_disk_Disk_Sync [.pointer x0, .string x1] w R := mkC (an := ⟨[], [], []⟩) Tryz.func109 (by kernel_rfl) h


/-- (*penstock/disk.Disk).Cut -/
def S_disk_Disk_Cut (R : Value → World → Prop) (x0 : Option Addr) (x1 : ByteArray) (x2 : Int) (w : World) : Prop :=
 CallP P F_disk_Disk_find [(.pointer x0), (.string x1)] w fun (v0 : Value) w1 =>
 TupP [.ptr, (.int .i64)] v0 fun (t2 : Option Addr × Int × Unit) =>
 JoinP (T := Unit) (fun J3 =>
 ifB (t2.snd.fst != 0)
 (R (.int .i64 t2.snd.fst) w1)
 (ifB (decide (x2 < 0))
 (R (.int .i64 1) w1)
 (nilCk t2.fst fun (a6 : Addr) =>
 RunQ .sl P (Instr.loadAt T_sl_uint8 (.pointer (some (a6.add 0)))) w1 fun (s7 : Sl) =>
 ifB (decide (x2 > (↑s7.len : Int)))
 (R (.int .i64 1) w1)
 (J3 (some ()) w1))))
 fun t4 w5 =>
 ∃ S8 : World → Prop, (S8 w5.drew) ∧
 nilCk x0 fun (a9 : Addr) =>
 nilCk t2.fst fun (a10 : Addr) =>
 HRun S8 .sl P (Instr.loadAt T_sl_uint8 (.pointer (some (a10.add 0)))) fun (s11 : Sl) =>
 RunQ (.int .i64) P (Instr.loadAt T_int (.pointer (some (a9.add 3)))) w5.drew fun (n12 : Int) =>
 (S8 w5.drew) ∧
 nilCk x0 fun (a13 : Addr) =>
 StoreP P T_int (.pointer (some (a13.add 3))) (.int .i64 (IntKind.i64.wrap (n12 - IntKind.i64.wrap ((↑s11.len : Int) - x2)))) w5.drew fun w14 =>
 (S8 w14) ∧
 nilCk t2.fst fun (a15 : Addr) =>
 RunQ .sl P (Instr.loadAt T_sl_uint8 (.pointer (some (a15.add 0)))) w14 fun (s16 : Sl) =>
 RunQ .sl P (Instr.sliceAt T_sl_uint8 s16.v none (some (.int .i64 x2)) (some (.int .i64 x2))) w14 fun (s17 : Sl) =>
 nilCk t2.fst fun (a18 : Addr) =>
 StoreP P T_sl_uint8 (.pointer (some (a18.add 0))) s17.v w14 fun w19 =>
 nilCk t2.fst fun (a20 : Addr) =>
 RunQ (.int .i64) P (Instr.loadAt T_int (.pointer (some (a20.add 1)))) w19 fun (n21 : Int) =>
 nilCk t2.fst fun (a22 : Addr) =>
 StoreP P T_int (.pointer (some (a22.add 1))) (.int .i64 (if x2 < n21 then x2 else n21)) w19 fun w23 =>
 R (.int .i64 0) w23
theorem c_disk_Disk_Cut {R : Value → World → Prop} {x0 : Option Addr} {x1 : ByteArray} {x2 : Int} {w : World} (h : S_disk_Disk_Cut R x0 x1 x2 w) : CallP P F_disk_Disk_Cut [.pointer x0, .string x1, .int .i64 x2] w R := mkC (an := ⟨[(6, [])], [], [6]⟩) Tryz.func123 (by kernel_rfl) h

end Go.Proofs.YtnjadekngjgjcaaGreatDoor
