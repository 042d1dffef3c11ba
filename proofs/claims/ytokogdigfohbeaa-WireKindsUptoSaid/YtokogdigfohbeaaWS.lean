/- Layer 17: a message beside another: what law 17 itself holds alike. -/
import Derived.Test.YtokogdigfohbeaaWQ
import Derived.Laws.StructEq
namespace Go.Proofs.Ytokogdigfohbeaa
open Go Go.Pk
structure Alike (a b : Ms) : Prop where
  kind : a.kind = b.kind
  ns : a.ns = b.ns
  pid : a.pid = b.pid
  commit : a.commit = b.commit
  mi : a.mi.length = b.mi.length
  al : a.al.length = b.al.length
  bl : a.bl.length = b.bl.length
  rk : a.rf.kind = b.rf.kind
  re : a.rf.el.length = b.rf.el.length
  fq : a.fq = b.fq
  fh : a.fd.high = b.fd.high
  fb : a.fd.bl.length = b.fd.bl.length
  ck : a.cd.k = b.cd.k
  cl : a.cd.li.length = b.cd.li.length
theorem len_map {α β γ : Type} {f : α → γ} {g : β → γ} {a : List α} {b : List β} (h : a.map f = b.map g) : a.length = b.length := by
  have := congrArg List.length h
  simpa using this
theorem fq_ext {a b : Fq} (h : a.ns = b.ns) : a = b := by
  obtain ⟨⟩ := a; obtain ⟨⟩ := b
  simp only [Fq.ns, List.cons.injEq, and_true] at h
  obtain ⟨rfl, rfl, rfl, rfl, rfl⟩ := h
  rfl
/-- what was read is alike with what was written, but for what its kind has not -/
theorem alike {x m : Ms} (ho : x.only) (hp : 0 ≤ m.pid) (hd : x.dB = m.d) : Alike x m.br := by
  have e1 : x.hd = m.hd := congrArg Prod.fst hd
  have e2 : x.restB = m.rest := congrArg Prod.snd hd
  have k0 : x.kind = m.kind := by simp only [Ms.hd, List.cons.injEq] at e1; exact e1.1
  unfold Ms.restB Ms.rest at e2
  rw [k0] at e2
  have o := ho
  obtain ⟨o1, o2, o3, o4, o5, _⟩ := o
  rw [k0] at o1 o2 o3 o4 o5
  unfold Ms.br
  by_cases h1 : m.kind = 1
  · obtain ⟨c1, c2, c3, c4, c5, c6, c7⟩ := o5 (.inl h1)
    rw [if_pos h1, if_pos h1] at e2
    simp only [Rest.raft.injEq] at e2
    obtain ⟨n1, _, n3, _⟩ := e2
    simp only [Rm.ns, List.cons.injEq] at n1
    rw [if_pos h1]
    exact ⟨k0, c2, c3, c4, by rw [c5]; rfl, by rw [c7]; rfl, by rw [c6]; rfl, n1.1, len_map n3, o2 (by omega), by rw [o3 (by omega)]; rfl, by rw [o3 (by omega)]; rfl, by rw [o4 (by omega)]; rfl, by rw [o4 (by omega)]; rfl⟩
  rw [if_neg h1, if_neg h1] at e2
  rw [if_neg h1]
  by_cases h2 : m.kind = 2
  · obtain ⟨c1, c2, c3, c4, c5, c6, c7⟩ := o5 (.inr (.inl h2))
    rw [if_pos h2, if_pos h2] at e2
    simp only [Rest.fetch.injEq] at e2
    rw [if_pos h2]
    exact ⟨k0, c2, c3, c4, by rw [c5]; rfl, by rw [c7]; rfl, by rw [c6]; rfl, by rw [o1 h1]; rfl, by rw [o1 h1]; rfl, fq_ext e2, by rw [o3 (by omega)]; rfl, by rw [o3 (by omega)]; rfl, by rw [o4 (by omega)]; rfl, by rw [o4 (by omega)]; rfl⟩
  rw [if_neg h2, if_neg h2] at e2
  rw [if_neg h2]
  by_cases h3 : m.kind = 3
  · obtain ⟨c1, c2, c3, c4, c5, c6, c7⟩ := o5 (.inr (.inr (.inl h3)))
    rw [if_pos h3, if_pos h3] at e2
    simp only [Rest.fetched.injEq] at e2
    obtain ⟨n1, _, n3⟩ := e2
    simp only [Fd.ns, List.cons.injEq] at n1
    rw [if_pos h3]
    exact ⟨k0, c2, c3, c4, by rw [c5]; rfl, by rw [c7]; rfl, by rw [c6]; rfl, by rw [o1 h1]; rfl, by rw [o1 h1]; rfl, o2 h2, n1.2.2.2.1, len_map n3, by rw [o4 (by omega)]; rfl, by rw [o4 (by omega)]; rfl⟩
  rw [if_neg h3, if_neg h3] at e2
  rw [if_neg h3]
  by_cases h4 : m.kind = 4
  · obtain ⟨c1, c2, c3, c4, c5, c6, c7⟩ := o5 (.inr (.inr (.inr h4)))
    rw [if_pos h4, if_pos h4] at e2
    simp only [Rest.cmd.injEq, Cd.d, Prod.mk.injEq, List.cons.injEq] at e2
    rw [if_pos h4]
    exact ⟨k0, c2, c3, c4, by rw [c5]; rfl, by rw [c7]; rfl, by rw [c6]; rfl, by rw [o1 h1]; rfl, by rw [o1 h1]; rfl, o2 h2, by rw [o3 h3]; rfl, by rw [o3 h3]; rfl, e2.1.1, congrArg List.length e2.2⟩
  rw [if_neg h4, if_neg h4] at e2
  rw [if_neg h4]
  unfold Ms.cl at e2
  simp only [Rest.client.injEq] at e2
  obtain ⟨n1, n2, n3, n4, n5, n6, n7⟩ := e2
  have := ho.pid
  exact ⟨k0, n1, by show x.pid = m.pid; omega, n3, congrArg List.length n4, len_map n7, len_map n6, by rw [o1 h1], by rw [o1 h1], o2 h2, by rw [o3 h3], by rw [o3 h3], by rw [o4 h4], by rw [o4 h4]⟩
section
variable {W w : World} {l L : List Res} {K : Value → World → Prop} {a b : Ms}
set_option maxRecDepth 20000 in
theorem eqFq {x : Fq} {K : Bool → Prop} (hK : K true) :
    RunQ .bool P (do (eqGuard .eql T_api_FetchReq (.tmp 0) (.tmp 0) (.agg x.cells.toArray) (.agg x.cells.toArray)); (binOp .eql T_api_FetchReq (.agg x.cells.toArray) (.agg x.cells.toArray))) w K := by
  refine ⟨true, ?_, hK⟩
  have hm : P.eqGuardType P.depth T_api_FetchReq = false := by kernel_rfl
  have ht : P.underlying T_api_FetchReq = some (.struct (P.fieldsOf T_api_FetchReq)) := by kernel_rfl
  have hp : P.stoodInHeld T_api_FetchReq = false := by kernel_rfl
  have hi : P.underlying T_int = some (.int .i64) := by kernel_rfl
  have hf : ∀ w, (Op.eqFields 9999 x.cells.toArray x.cells.toArray (P.fieldsOf T_api_FetchReq).toList).run P w = .ok true w := by
    have hq : ((P.fieldsOf T_api_FetchReq).toList.all fun f => f.type == T_int && decide (f.offset < 5)) = true := by kernel_rfl
    have hpt : ∀ i, i < 5 → ∃ p, ∀ w, (part T_int x.cells.toArray i).run P w = .ok (.int .i64 p) w := by
      intro i hi
      match i, hi with
      | 0, _ => exact ⟨x.part, fun w => by kernel_rfl⟩
      | 1, _ => exact ⟨x.epoch, fun w => by kernel_rfl⟩
      | 2, _ => exact ⟨x.node, fun w => by kernel_rfl⟩
      | 3, _ => exact ⟨x.offset, fun w => by kernel_rfl⟩
      | 4, _ => exact ⟨x.le, fun w => by kernel_rfl⟩
    generalize (P.fieldsOf T_api_FetchReq).toList = fs at hq
    induction fs with
    | nil => intro w; simp [Op.eqFields]
    | cons f fs ih =>
      intro w
      simp only [List.all_cons, Bool.and_eq_true, beq_iff_eq, decide_eq_true_eq] at hq
      obtain ⟨p, hp⟩ := hpt f.offset hq.1.2
      have h2 := ih hq.2 w
      have e : ∀ w, (Op.equalIn (9998 + 1) T_int (.int .i64 p) (.int .i64 p)).run P w = .ok (p == p) w := fun w => run_equalIn_int w 9998 T_int .i64 .i64 p p hi
      have e' : ∀ w, (Op.equalIn 9999 T_int (.int .i64 p) (.int .i64 p)).run P w = .ok true w := fun w => by have := e w; simpa using this
      by_cases hn : f.name = "_"
      · simp only [Op.eqFields, hn, ne_eq, not_true_eq_false, if_false]
        exact h2
      · simp only [Op.eqFields, ne_eq, hn, not_false_eq_true, if_true, hq.1.1, Sem.run_bind, hp, Result.andThen_ok, e', Sem.run_ite, Bool.not_true, Bool.false_eq_true, if_false]
        exact h2
  rw [Sem.run_bind, run_eqGuard_agg (hm := hm)]
  simp only [Result.andThen_ok]
  rw [run_eql_struct, run_equalIn_agg (ht := ht) (hp := hp), hf]
  rfl
theorem vI_len {w : World} {s : Sl} {xs : List Int} (h : RdC w s 1 (xs.map vI)) : s.len = xs.length := by
  have := h.1
  simp only [List.length_map, Nat.mul_one] at this
  exact this.symm
theorem bare17_ok (h : Sat W w l) (e : Alike a b) (va : MRd W l a) (vb : MRd W l b) (hK : ∀ w', Sat W w' l → K (.bool true) w') : CallP P F_law17_bare [.agg a.cells.toArray, .agg b.cells.toArray] w K := by
  apply c_law17_bare
  unfold S_law17_bare
  refine boxB h fun g1 w1 h1 => ?_
  refine boxB h1 fun g2 w2 h2 => ?_
  have hB : Sat W w2 (Blk g2 b.cells T_api_Msg :: Blk g1 a.cells T_api_Msg :: l) := h2
  have hA := hB.swap
  have h0 : Sat W w l := h
  have n := e.ns
  simp only [Ms.ns, List.cons.injEq, and_true] at n
  obtain ⟨n_part, n_offset, n_tx, n_inc, n_epoch, n_group, n_gen, n_member, n_high⟩ := n
  have q_mi : ((a.ms.len : Nat) : Int) = ((b.ms.len : Nat) : Int) := by rw [vI_len (va.mi w h), vI_len (vb.mi w h), e.mi]
  have q_cl : a.cd.ls.len = b.cd.ls.len := by rw [vI_len (va.cd w h), vI_len (vb.cd w h), e.cl]
  have q_al : ((a.av.len : Nat) : Int) = ((b.av.len : Nat) : Int) := by rw [RdC.elen (va.al w h) (by decide), RdC.elen (vb.al w h) (by decide), e.al]
  have q_bl : ((a.bs.len : Nat) : Int) = ((b.bs.len : Nat) : Int) := by rw [RdC.elen (E := elDc) (va.bl.1 w h) (by decide), RdC.elen (E := elDc) (vb.bl.1 w h) (by decide), e.bl]
  have q_fb : ((a.fd.bs.len : Nat) : Int) = ((b.fd.bs.len : Nat) : Int) := by rw [RdC.elen (E := elDc) (va.fd.1 w h) (by decide), RdC.elen (E := elDc) (vb.fd.1 w h) (by decide), e.fb]
  have q_re : ((a.rf.es.len : Nat) : Int) = ((b.rf.es.len : Nat) : Int) := by rw [RdC.elen (E := elEn) (va.rf.es w h) (by decide), RdC.elen (E := elEn) (vb.rf.es w h) (by decide), e.re]
  refine ldB hA (o := 0) (i := 0) (x := a.kind) ?_
  refine ldB hB (o := 0) (i := 0) (x := b.kind) ?_
  refine ifB_beq (fun _ => ?_) fun hne => absurd (e.kind) hne
  refine ldB hA (o := 0) (i := 45) (x := a.part) ?_
  refine ldB hB (o := 0) (i := 45) (x := b.part) ?_
  refine ifB_beq (fun _ => ?_) fun hne => absurd (n_part) hne
  refine ldB hA (o := 0) (i := 46) (x := a.offset) ?_
  refine ldB hB (o := 0) (i := 46) (x := b.offset) ?_
  refine ifB_beq (fun _ => ?_) fun hne => absurd (n_offset) hne
  refine ldB hA (o := 0) (i := 47) (x := a.tx) ?_
  refine ldB hB (o := 0) (i := 47) (x := b.tx) ?_
  refine ifB_beq (fun _ => ?_) fun hne => absurd (n_tx) hne
  refine ldB hA (o := 0) (i := 48) (x := a.inc) ?_
  refine ldB hB (o := 0) (i := 48) (x := b.inc) ?_
  refine ifB_beq (fun _ => ?_) fun hne => absurd (n_inc) hne
  refine ldB hA (o := 0) (i := 49) (x := a.pid) ?_
  refine ldB hB (o := 0) (i := 49) (x := b.pid) ?_
  refine ifB_beq (fun _ => ?_) fun hne => absurd (e.pid) hne
  refine ldB hA (o := 0) (i := 50) (x := a.epoch) ?_
  refine ldB hB (o := 0) (i := 50) (x := b.epoch) ?_
  refine ifB_beq (fun _ => ?_) fun hne => absurd (n_epoch) hne
  refine ldB hA (o := 0) (i := 51) (x := a.commit) ?_
  refine ldB hB (o := 0) (i := 51) (x := b.commit) ?_
  rw [e.commit, show (b.commit == b.commit) = true from by cases b.commit <;> rfl]
  simp only [ifB_true]
  refine ldB hA (o := 0) (i := 52) (x := a.group) ?_
  refine ldB hB (o := 0) (i := 52) (x := b.group) ?_
  refine ifB_beq (fun _ => ?_) fun hne => absurd (n_group) hne
  refine ldB hA (o := 0) (i := 53) (x := a.gen) ?_
  refine ldB hB (o := 0) (i := 53) (x := b.gen) ?_
  refine ifB_beq (fun _ => ?_) fun hne => absurd (n_gen) hne
  refine ldB hA (o := 0) (i := 54) (x := a.member) ?_
  refine ldB hB (o := 0) (i := 54) (x := b.member) ?_
  refine ifB_beq (fun _ => ?_) fun hne => absurd (n_member) hne
  refine ldB hA (o := 0) (i := 58) (x := a.high) ?_
  refine ldB hB (o := 0) (i := 58) (x := b.high) ?_
  refine ifB_beq (fun _ => ?_) fun hne => absurd (n_high) hne
  refine ldB hA (o := 0) (i := 55) (k := .sl) (x := a.ms) ?_
  refine ldB hB (o := 0) (i := 55) (k := .sl) (x := b.ms) ?_
  refine ifB_beq (fun _ => ?_) fun hne => absurd (q_mi) hne
  refine ldB hA (o := 0) (i := 57) (k := .sl) (x := a.av) ?_
  refine ldB hB (o := 0) (i := 57) (k := .sl) (x := b.av) ?_
  refine ifB_beq (fun _ => ?_) fun hne => absurd (q_al) hne
  refine ldB hA (o := 0) (i := 56) (k := .sl) (x := a.bs) ?_
  refine ldB hB (o := 0) (i := 56) (k := .sl) (x := b.bs) ?_
  refine ifB_beq (fun _ => ?_) fun hne => absurd (q_bl) hne
  refine ldX hA 5 (x := a.rf.kind) ?_
  refine ldX hB 5 (x := b.rf.kind) ?_
  refine ifB_beq (fun _ => ?_) fun hne => absurd (e.rk) hne
  refine ldX hA 13 (k := .sl) (x := a.rf.es) ?_
  refine ldX hB 13 (k := .sl) (x := b.rf.es) ?_
  refine ifB_beq (fun _ => ?_) fun hne => absurd (q_re) hne
  refine ldAggX 15 5 hA (hl := (by show 15 + 5 ≤ 59; decide)) ?_
  refine ldAggX 15 5 hB (hl := (by show 15 + 5 ≤ 59; decide)) ?_
  have ea : ((a.cells.drop 15).take 5).toArray = b.fq.cells.toArray := by rw [← e.fq]; rfl
  have eb : ((b.cells.drop 15).take 5).toArray = b.fq.cells.toArray := rfl
  rw [ea, eb]
  refine eqFq ?_
  simp only [ifB_true]
  refine ldX hA 23 (x := a.fd.high) ?_
  refine ldX hB 23 (x := b.fd.high) ?_
  refine ifB_beq (fun _ => ?_) fun hne => absurd (e.fh) hne
  refine ldX hA 29 (k := .sl) (x := a.fd.bs) ?_
  refine ldX hB 29 (k := .sl) (x := b.fd.bs) ?_
  refine ifB_beq (fun _ => ?_) fun hne => absurd (q_fb) hne
  refine ldX hA 30 (x := a.cd.k) ?_
  refine ldX hB 30 (x := b.cd.k) ?_
  refine ifB_beq (fun _ => ?_) fun hne => absurd (e.ck) hne
  refine ldX hA 35 (k := .sl) (x := a.cd.ls) ?_
  refine ldX hB 35 (k := .sl) (x := b.cd.ls) ?_
  rw [show (((a.cd.ls.len : Nat) : Int) == ((b.cd.ls.len : Nat) : Int)) = true from by rw [q_cl]; simp]
  exact hK _ hA.tail.tail
end
end Go.Proofs.Ytokogdigfohbeaa
