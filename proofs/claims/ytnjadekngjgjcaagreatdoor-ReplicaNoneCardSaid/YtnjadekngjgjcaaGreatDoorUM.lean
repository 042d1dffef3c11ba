/- Layer 14: a replica that there isn't; the law's first look. -/
import Derived.Test.YtnjadekngjgjcaaGreatDoorUL
import Derived.Test.YtnjadekngjgjcaaGreatDoorE9
import Derived.Test.YtnjadekngjgjcaaGreatDoorFRq
namespace Go.Proofs.YtnjadekngjgjcaaGreatDoor
open Go Go.Pk
section
variable {W w : World} {l : List Res} {K : Value → World → Prop} {a b : Nat}
set_option maxRecDepth 20000 in
theorem eqFq {x : Fq} {K : Bool → Prop} (hK : K true) :
    RunQ .bool P (do (eqGuard .eql T_api_FetchReq (.tmp 0) (.tmp 0) (.agg x.cells.toArray) (.agg x.cells.toArray)); (binOp .eql T_api_FetchReq (.agg x.cells.toArray) (.agg x.cells.toArray))) w K := by
  refine ⟨true, ?_, hK⟩
  have hm : P.eqGuardType P.depth T_api_FetchReq = false := by kernel_rfl
  have ht : P.underlying T_api_FetchReq = some (.struct (P.fieldsOf T_api_FetchReq)) := by kernel_rfl
  have hp : P.stoodInHeld T_api_FetchReq = false := by kernel_rfl
  have hi : P.underlying T_int = some (.int .i64) := by kernel_rfl
  have hf : ∀ w, (Op.eqFields 9999 x.cells.toArray x.cells.toArray (P.fieldsOf T_api_FetchReq).toList).run P w = .ok true w := by
    have hq : ((P.fieldsOf T_api_FetchReq).toList.all fun f => f.type == T_int && decide (f.offset < 5)) = true := by kernel_rfl
    have hpt : ∀ i, i < 5 → ∃ p, ∀ w, (part T_int x.cells.toArray i).run P w = .ok (.int .i64 p) w := by
      intro i hi
      match i, hi with
      | 0, _ => exact ⟨x.part, fun w => by kernel_rfl⟩
      | 1, _ => exact ⟨x.epoch, fun w => by kernel_rfl⟩
      | 2, _ => exact ⟨x.node, fun w => by kernel_rfl⟩
      | 3, _ => exact ⟨x.off, fun w => by kernel_rfl⟩
      | 4, _ => exact ⟨x.last, fun w => by kernel_rfl⟩
    generalize (P.fieldsOf T_api_FetchReq).toList = fs at hq
    induction fs with
    | nil => intro w; simp [Op.eqFields]
    | cons f fs ih =>
      intro w
      simp only [List.all_cons, Bool.and_eq_true, beq_iff_eq, decide_eq_true_eq] at hq
      obtain ⟨p, hp⟩ := hpt f.offset hq.1.2
      have h2 := ih hq.2 w
      have e : ∀ w, (Op.equalIn (9998 + 1) T_int (.int .i64 p) (.int .i64 p)).run P w = .ok (p == p) w := fun w => run_equalIn_int w 9998 T_int .i64 .i64 p p hi
      have e' : ∀ w, (Op.equalIn 9999 T_int (.int .i64 p) (.int .i64 p)).run P w = .ok true w := fun w => by have := e w; simpa using this
      by_cases hn : f.name = "_"
      · simp only [Op.eqFields, hn, ne_eq, not_true_eq_false, if_false]
        exact h2
      · simp only [Op.eqFields, ne_eq, hn, not_false_eq_true, if_true, hq.1.1, Sem.run_bind, hp, Result.andThen_ok, e', Sem.run_ite, Bool.not_true, Bool.false_eq_true, if_false]
        exact h2
  rw [Sem.run_bind, run_eqGuard_agg (hm := hm)]
  simp only [Result.andThen_ok]
  rw [run_eql_struct, run_equalIn_agg (ht := ht) (hp := hp), hf]
  rfl
theorem ropenNil_ok {n : ByteArray} {x y : Int} (hK : K (.tuple #[.pointer none, .int .i64 5]) w) : CallP P F_replica_Open [.pointer none, .string n, .int .i64 x, .int .i64 y] w K := by
  apply c_replica_Open
  unfold S_replica_Open
  exact ⟨fun _ _ => False, fun _ _ h => h.elim, ifB_intro (fun _ => hK) fun c => absurd c (by simp)⟩
theorem ropenBad_ok {n : ByteArray} {x y : Int} (hb : ¬ ((0 ≤ x ∧ x < 6) ∧ 0 ≤ y ∧ y < 5)) (hK : K (.tuple #[.pointer none, .int .i64 1]) w) : CallP P F_replica_Open [.pointer (some ⟨b, 0, none⟩), .string n, .int .i64 x, .int .i64 y] w K := by
  apply c_replica_Open
  unfold S_replica_Open
  refine ⟨fun _ _ => False, fun _ _ h => h.elim, ifB_intro (fun c => absurd c (by simp)) fun _ => ?_⟩
  refine ifB_dec (fun _ => hK) fun c1 => ?_
  refine ifB_dec (fun _ => hK) fun c2 => ?_
  refine ifB_dec (fun _ => hK) fun c3 => ?_
  refine ifB_dec (fun _ => hK) fun c4 => ?_
  exact hb ⟨⟨by omega, by omega⟩, by omega, by omega⟩
theorem marksNil_ok (hK : K (.tuple #[.int .i64 0, .int .i64 0, .int .i64 0, .int .i64 0]) w) : CallP P F_replica_Replica_Marks [.pointer none] w K := by
  apply c_replica_Replica_Marks
  unfold S_replica_Replica_Marks
  exact ifB_intro (fun _ => hK) fun c => absurd c (by simp)
theorem needNil_ok (h : Sat W w l) (hK : ∀ w', Sat W w' l → K (.tuple #[.agg (Fq.cells ⟨0, 0, 0, 0, 0⟩).toArray, .bool false]) w') : CallP P F_replica_Replica_Need [.pointer none] w K := by
  apply c_replica_Replica_Need
  unfold S_replica_Replica_Need
  refine allocB h (z := .agg (Fq.cells ⟨0, 0, 0, 0, 0⟩).toArray) (by kernel_rfl) fun g w1 h1 => ?_
  have h1 : Sat W w1 (Blk g (Fq.cells ⟨0, 0, 0, 0, 0⟩) T_api_FetchReq :: l) := h1
  refine ⟨fun _ _ => False, fun _ _ h => h.elim, ifB_intro (fun _ => ?_) fun c => absurd c (by simp)⟩
  refine stAggB (cs' := Fq.cells ⟨0, 0, 0, 0, 0⟩) h1 rfl (Fq.ones _) (by kernel_rfl) fun w9 h2 => ?_
  refine ldAggK h2 ?_
  exact hK w9 h2.tail
theorem wantNil_ok {x : Sl} (hK : K (.tuple #[.slice none 0 0, .bool false]) w) : CallP P F_replica_Replica_Want [.pointer none, x.v] w K := by
  apply c_replica_Replica_Want
  unfold S_replica_Replica_Want
  exact ⟨fun _ _ => False, fun _ _ h => h.elim, ifB_intro (fun _ => hK) fun c => absurd c (by simp)⟩
theorem committedNil_ok {x y : Int} (hK : K (.tuple #[.slice none 0 0, .slice none 0 0, .int .i64 0]) w) : CallP P F_replica_Replica_Committed [.pointer none, .int .i64 x, .int .i64 y] w K := by
  apply c_replica_Replica_Committed
  unfold S_replica_Replica_Committed
  exact ifB_intro (fun _ => hK) fun c => absurd c (by simp)
theorem produceNil_ok {v : Value} (h : Sat W w l) (hK : ∀ w', Sat W w' l → K (.tuple #[.int .i64 0, .int .i64 5]) w') : CallP P F_replica_Replica_Produce [.pointer none, v] w K := by
  apply c_replica_Replica_Produce
  unfold S_replica_Replica_Produce
  exact boxB h fun a0 w1 h1 => ifB_intro (fun _ => hK w1 h1.tail) fun c => absurd c (by simp)
theorem roleNil_ok (hK : K (.tuple #[.int .i64 0, .bool false]) w) : CallP P F_replica_Replica_Role [.pointer none] w K := by
  apply c_replica_Replica_Role
  unfold S_replica_Replica_Role
  exact ifB_intro (fun _ => hK) fun c => absurd c (by simp)
theorem tickNil_ok (hK : K (.tuple #[]) w) : CallP P F_replica_Replica_Tick [.pointer none] w K := by
  apply c_replica_Replica_Tick
  unfold S_replica_Replica_Tick
  exact ⟨fun _ _ => False, fun _ _ h => h.elim, ifB_intro (fun _ => hK) fun c => absurd c (by simp)⟩
theorem askedNil_ok {x : Sl} (hK : K (.tuple #[]) w) : CallP P F_replica_Replica_Asked [.pointer none, x.v] w K := by
  apply c_replica_Replica_Asked
  unfold S_replica_Replica_Asked
  exact ifB_intro (fun c => absurd c (by simp)) fun _ => hK
def frNil : List Value := [.int .i64 0, .int .i64 0, .int .i64 5, .int .i64 0, .bool false, .int .i64 0, .int .i64 0, .int .i64 0, .int .i64 0, .slice none 0 0]
def frZero : List Value := [.int .i64 0, .int .i64 0, .int .i64 0, .int .i64 0, .bool false, .int .i64 0, .int .i64 0, .int .i64 0, .int .i64 0, .slice none 0 0]
theorem frNil_ones : ∀ u ∈ frNil, u.oneCell' = true := fun u hu => by
  simp only [frNil, List.mem_cons, List.not_mem_nil, or_false] at hu
  rcases hu with rfl | rfl | rfl | rfl | rfl | rfl | rfl | rfl | rfl | rfl <;> rfl
theorem fetchNil_ok {v : Value} (h : Sat W w l) (hK : ∀ w', Sat W w' l → K (.agg frNil.toArray) w') : CallP P F_replica_Replica_Fetch [.pointer none, v] w K := by
  apply c_replica_Replica_Fetch
  unfold S_replica_Replica_Fetch
  refine boxB h fun a0 w1 h1 => ?_
  refine allocB h1 (z := .agg frZero.toArray) (by kernel_rfl) fun g w3 h2 => ?_
  have h2 : Sat W w3 (Blk g frZero T_api_FetchReply :: _) := h2
  refine ifB_intro (fun _ => ?_) fun c => absurd c (by simp)
  refine stAggB (cs' := frNil) h2 rfl frNil_ones (by kernel_rfl) fun w9 h3 => ?_
  refine ldAggK h3 ?_
  exact hK w9 h3.tail.tail
theorem readyNil_ok (h : Sat W w l) (hK : ∀ w', Sat W w' l → K (.bool false) w') : CallP P F_replica_Replica_Ready [.pointer none] w K := by
  apply c_replica_Replica_Ready
  unfold S_replica_Replica_Ready
  exact ifB_intro (fun c => absurd c (by simp)) fun _ => hK _ h.drew
theorem logNil_ok (hK : K (.slice none 0 0) w) : CallP P F_replica_Replica_Log [.pointer none] w K := by
  apply c_replica_Replica_Log
  unfold S_replica_Replica_Log
  exact ifB_intro (fun _ => hK) fun c => absurd c (by simp)
theorem leadNil_ok {x : Int} {s : Sl} (hK : K (.int .i64 5) w) : CallP P F_replica_Replica_Lead [.pointer none, .int .i64 x, s.v] w K := by
  apply c_replica_Replica_Lead
  unfold S_replica_Replica_Lead
  exact ifB_intro (fun _ => hK) fun c => absurd c (by simp)
theorem followNil_ok {x : Int} (hK : K (.int .i64 5) w) : CallP P F_replica_Replica_Follow [.pointer none, .int .i64 x] w K := by
  apply c_replica_Replica_Follow
  unfold S_replica_Replica_Follow
  exact ifB_intro (fun _ => hK) fun c => absurd c (by simp)
theorem syncNil_ok {x : Int} {s : Sl} (hK : K (.int .i64 5) w) : CallP P F_replica_Replica_Sync [.pointer none, .int .i64 x, s.v] w K := by
  apply c_replica_Replica_Sync
  unfold S_replica_Replica_Sync
  exact ⟨fun _ _ => False, fun _ _ h => h.elim, ifB_intro (fun _ => hK) fun c => absurd c (by simp)⟩
theorem acceptNil_ok {v : Value} (h : Sat W w l) (hK : ∀ w', Sat W w' l → K (.int .i64 5) w') : CallP P F_replica_Replica_Accept [.pointer none, v] w K := by
  apply c_replica_Replica_Accept
  unfold S_replica_Replica_Accept
  exact boxB h fun a0 w1 h1 => ⟨fun _ _ => False, fun _ _ h => h.elim, ifB_intro (fun _ => hK w1 h1.tail) fun c => absurd c (by simp)⟩
end
end Go.Proofs.YtnjadekngjgjcaaGreatDoor
