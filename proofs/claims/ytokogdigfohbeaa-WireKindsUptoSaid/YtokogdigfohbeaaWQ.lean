/- Layer 17: what is alike; a message with just what its kind has; the laws of kinds, of holding apart, of there and back. -/
import Derived.Test.YtokogdigfohbeaaWP
namespace Go.Proofs.Ytokogdigfohbeaa
open Go Go.Pk
/-- a message with just what its kind has -/
def Ms.br (m : Ms) : Ms :=
  if m.kind = 1 then { zM m.kind m.frm m.to m.corr m.er with rf := m.rf } else if m.kind = 2 then { zM m.kind m.frm m.to m.corr m.er with fq := m.fq }
  else if m.kind = 3 then { zM m.kind m.frm m.to m.corr m.er with fd := m.fd } else if m.kind = 4 then { zM m.kind m.frm m.to m.corr m.er with cd := m.cd } else { m with rf := zRm, fq := zFq, fd := zFd, cd := zCd }
theorem br_ly (m : Ms) : lyM m.br = lyM m ∧ m.br.kind = m.kind := by
  unfold Ms.br
  by_cases h1 : m.kind = 1
  · rw [if_pos h1]
    refine ⟨?_, rfl⟩
    unfold lyM lyRest
    rw [if_pos (show (zM m.kind m.frm m.to m.corr m.er).kind = 1 from h1), if_pos h1]; rfl
  rw [if_neg h1]
  by_cases h2 : m.kind = 2
  · rw [if_pos h2]
    refine ⟨?_, rfl⟩
    unfold lyM lyRest
    rw [if_neg (show ¬ (zM m.kind m.frm m.to m.corr m.er).kind = 1 from h1), if_neg h1, if_pos (show (zM m.kind m.frm m.to m.corr m.er).kind = 2 from h2), if_pos h2]; rfl
  rw [if_neg h2]
  by_cases h3 : m.kind = 3
  · rw [if_pos h3]
    refine ⟨?_, rfl⟩
    unfold lyM lyRest
    rw [if_neg (show ¬ (zM m.kind m.frm m.to m.corr m.er).kind = 1 from h1), if_neg h1, if_neg (show ¬ (zM m.kind m.frm m.to m.corr m.er).kind = 2 from h2), if_neg h2, if_pos (show (zM m.kind m.frm m.to m.corr m.er).kind = 3 from h3), if_pos h3]; rfl
  rw [if_neg h3]
  by_cases h4 : m.kind = 4
  · rw [if_pos h4]
    refine ⟨?_, rfl⟩
    unfold lyM lyRest
    rw [if_neg (show ¬ (zM m.kind m.frm m.to m.corr m.er).kind = 1 from h1), if_neg h1, if_neg (show ¬ (zM m.kind m.frm m.to m.corr m.er).kind = 2 from h2), if_neg h2, if_neg (show ¬ (zM m.kind m.frm m.to m.corr m.er).kind = 3 from h3), if_neg h3, if_pos (show (zM m.kind m.frm m.to m.corr m.er).kind = 4 from h4), if_pos h4]; rfl
  rw [if_neg h4]
  refine ⟨?_, rfl⟩
  unfold lyM lyRest
  simp only [h1, h2, h3, h4, if_false]
  rfl
theorem br_E (m : Ms) : mE m.br = mE m := by
  obtain ⟨h1, h2⟩ := br_ly m
  unfold mE; rw [h1, h2]
theorem br_B (m : Ms) : mB m.br = mB m := by
  unfold mB; rw [br_E, (br_ly m).1]
theorem br_num {m : Ms} (h : m.num) : m.br.num := by
  unfold Ms.br
  have hz : (zM m.kind m.frm m.to m.corr m.er).num := by
    refine ⟨h.hd, zRm_num, zFq_num, zFd_num, zCd_num, zeroDc_num, ?_, ⟨Int.le_refl 0, (by show (0 : Int) < 18446744073709551616; decide)⟩, (by intro i hi; cases hi), (by intro i hi; cases hi), (by intro i hi; cases hi)⟩
    intro i hi; simp [Ms.ns, zM, zMs] at hi; subst hi; exact okI0
  split
  · exact ⟨hz.hd, h.rf, hz.fq, hz.fd, hz.cd, hz.bt, hz.ns, hz.pid, hz.mi, hz.bl, hz.al⟩
  split
  · exact ⟨hz.hd, hz.rf, h.fq, hz.fd, hz.cd, hz.bt, hz.ns, hz.pid, hz.mi, hz.bl, hz.al⟩
  split
  · exact ⟨hz.hd, hz.rf, hz.fq, h.fd, hz.cd, hz.bt, hz.ns, hz.pid, hz.mi, hz.bl, hz.al⟩
  split
  · exact ⟨hz.hd, hz.rf, hz.fq, hz.fd, h.cd, hz.bt, hz.ns, hz.pid, hz.mi, hz.bl, hz.al⟩
  · exact ⟨h.hd, zRm_num, zFq_num, zFd_num, zCd_num, h.bt, h.ns, h.pid, h.mi, h.bl, h.al⟩
theorem br_w {m : Ms} (h : m.w ≤ 2 ^ 44) : m.br.w ≤ 2 ^ 44 := by
  have e : ∀ m : Ms, m.w = 1000 + 20 * m.rf.wt + 2010 * m.fd.bl.length + 10 * m.mi.length + 2010 * m.bl.length + 30 * m.al.length := fun _ => rfl
  have z1 : zRm.wt = 0 := rfl
  rw [e] at h
  unfold Ms.br
  split
  · show 1000 + 20 * m.rf.wt + 2010 * 0 + 10 * 0 + 2010 * 0 + 30 * 0 ≤ 2 ^ 44; omega
  split
  · show 1000 + 20 * zRm.wt + 2010 * 0 + 10 * 0 + 2010 * 0 + 30 * 0 ≤ 2 ^ 44; omega
  split
  · show 1000 + 20 * zRm.wt + 2010 * m.fd.bl.length + 10 * 0 + 2010 * 0 + 30 * 0 ≤ 2 ^ 44; omega
  split
  · show 1000 + 20 * zRm.wt + 2010 * 0 + 10 * 0 + 2010 * 0 + 30 * 0 ≤ 2 ^ 44; omega
  · show 1000 + 20 * zRm.wt + 2010 * 0 + 10 * m.mi.length + 2010 * m.bl.length + 30 * m.al.length ≤ 2 ^ 44; omega
section
variable {W w : World} {l L : List Res} {K : Value → World → Prop} {t : List UInt8} {m a b : Ms}
theorem zero_rd : RmRd W l zRm ∧ DsRd W l zFd.bs zFd.bl ∧ Rd W l zCd.ls 1 (zCd.li.map vI) ∧ VRd W l zeroDc ∧ Rd W l (⟨none, 0, 0⟩ : Sl) 1 (([] : List Int).map vI) ∧ DsRd W l ⟨none, 0, 0⟩ [] ∧ Rd W l (⟨none, 0, 0⟩ : Sl) 3 (elAb.flat []) :=
  ⟨⟨Rd.nil rfl, (by intro y hy; cases hy), Rd.nil rfl⟩, ⟨Rd.nil rfl, (by intro y hy; cases hy)⟩, Rd.nil rfl, ⟨Rd.nil rfl, rfl, fun i s b h1 _ => by simp [zeroDc] at h1⟩, Rd.nil rfl, ⟨Rd.nil rfl, (by intro y hy; cases hy)⟩, Rd.nil rfl⟩
theorem br_rd (h : MRd W l m) : MRd W l m.br := by
  obtain ⟨z1, z2, z3, z4, z5, z6, z7⟩ := zero_rd (W := W) (l := l)
  unfold Ms.br
  split
  · exact ⟨h.rf, z2, z3, z4, z5, z6, z7⟩
  split
  · exact ⟨z1, z2, z3, z4, z5, z6, z7⟩
  split
  · exact ⟨z1, h.fd, z3, z4, z5, z6, z7⟩
  split
  · exact ⟨z1, z2, h.cd, z4, z5, z6, z7⟩
  · exact ⟨z1, z2, z3, h.bt, h.mi, h.bl, h.al⟩
theorem same17_ok (h : Sat W w l) (ha : a.num) (hb : b.num) (va : MRd W l a) (vb : MRd W l b) (wa : a.w ≤ 2 ^ 44) (wb : b.w ≤ 2 ^ 44)
    (hK : ∀ (v : Bool) w', (v = true ↔ mE a = 0 ∧ mE b = 0 ∧ mB a = mB b) → Sat W w' l → K (.bool v) w') : CallP P F_ref17_SameMsg [.agg a.cells.toArray, .agg b.cells.toArray] w K := by
  apply c_ref17_SameMsg
  unfold S_ref17_SameMsg
  have hla := mB_len ha wa
  refine boxB h fun g1 w1 h1 => ?_
  refine boxB h1 fun g2 w2 h2 => ?_
  have h2 : Sat W w2 (Blk g2 b.cells T_api_Msg :: Blk g1 a.cells T_api_Msg :: l) := h2
  have h3 := h2.swap
  refine ldAggB h3 (by kernel_rfl) ?_
  refine rencode17_ok h2 ha va.cons.cons wa fun s1 w3 h4 => tup2 ?_
  have h5 := h4.up 1
  refine ldAggB h5 (by kernel_rfl) ?_
  refine rencode17_ok h4 hb vb.cons.cons.cons wb fun s2 w4 h6 => tup2 ?_
  refine ifB_beq (fun ea => ?_) fun ea => ?_
  · have ea' : mE a = 0 := ea
    refine ifB_beq (fun eb => ?_) fun eb => ?_
    · have eb' : mE b = 0 := eb
      refine same_ok h6 (Rd.own.cons) Rd.own (by omega) fun w5 h7 => tyI ?_
      exact hK _ w5 (by simp [ea', eb']) h7.tail.tail.tail.tail
    · have eb' : mE b ≠ 0 := eb
      exact hK _ w4 (by simp [eb']) h6.tail.tail.tail.tail
  · have ea' : mE a ≠ 0 := ea
    exact hK _ w4 (by simp [ea']) h6.tail.tail.tail.tail
theorem bare_ok (h : Sat W w l) (hK : ∀ w', Sat W w' l → K (.agg m.br.cells.toArray) w') : CallP P F_ref17_Bare [.agg m.cells.toArray] w K := by
  apply c_ref17_Bare
  unfold S_ref17_Bare
  refine boxB h fun g1 w1 h1 => ?_
  refine allocB h1 (z := .agg zMs.cells.toArray) (by kernel_rfl) fun g2 w2 h2 => ?_
  have h2 : Sat W w2 (Blk g2 zMs.cells T_api_Msg :: Blk g1 m.cells T_api_Msg :: l) := h2
  have h3 := h2.swap
  refine ldB h3 (o := 0) (i := 0) (x := m.kind) ?_
  refine ldB h3 (o := 0) (i := 1) (x := m.frm) ?_
  refine ldB h3 (o := 0) (i := 2) (x := m.to) ?_
  refine ldB h3 (o := 0) (i := 3) (x := m.corr) ?_
  refine ldB h3 (o := 0) (i := 4) (x := m.er) ?_
  refine newMs h3 (zM m.kind m.frm m.to m.corr m.er) fun g3 w3 h4 => ?_
  have h5 := h4.up 1
  have fin : ∀ {w' : World} {m' : Ms}, m' = m.br → Sat W w' (Blk g3 m'.cells T_api_Msg :: Blk g1 m.cells T_api_Msg :: Blk g2 zMs.cells T_api_Msg :: l) →
      RunQ .val P (Instr.loadAt T_api_Msg (.pointer (some ⟨g3, 0, none⟩))) w' fun (v15 : Value) => StoreP P T_api_Msg (.pointer (some ⟨g2, 0, none⟩)) v15 w' fun w16 => LoadK .val P T_api_Msg (.pointer (some ⟨g2, 0, none⟩)) w16 fun (v17 : Value) => K v17 w16 := by
    rintro w' m' rfl h6
    refine ldAggB h6 (by kernel_rfl) ?_
    have h7 := h6.up 2
    refine stAggB (cs := zMs.cells) (cs' := m.br.cells) h7 rfl (Ms.ones _) (by kernel_rfl) fun w7 h8 => ?_
    exact ldAggB h8 (by kernel_rfl) (hK w7 h8.tail.tail.tail)
  refine ldB h5 (o := 0) (i := 0) (x := m.kind) ?_
  refine ifB_beq (fun k1 => ?_) fun k1 => ?_
  · refine ldAggX 5 10 h5 (hl := (by show 5 + 10 ≤ 59; decide)) ?_
    refine setW (m' := { zM m.kind m.frm m.to m.corr m.er with rf := m.rf }) (cs := m.rf.cells) h4 rfl (Rm.ones _) (by show 5 + 10 ≤ 59; decide) (by kernel_rfl) fun w5 h6 => ?_
    exact fin (by unfold Ms.br; rw [if_pos k1]) h6
  refine ifB_beq (fun k2 => ?_) fun k2 => ?_
  · refine ldAggX 15 5 h5 (hl := (by show 15 + 5 ≤ 59; decide)) ?_
    refine setW (m' := { zM m.kind m.frm m.to m.corr m.er with fq := m.fq }) (cs := m.fq.cells) h4 rfl (by intro u hu; simp only [Fq.cells, List.mem_cons, List.not_mem_nil, or_false] at hu; rcases hu with rfl | rfl | rfl | rfl | rfl <;> rfl) (by show 15 + 5 ≤ 59; decide) (by kernel_rfl) fun w5 h6 => ?_
    exact fin (by unfold Ms.br; rw [if_neg k1, if_pos k2]) h6
  refine ifB_beq (fun k3 => ?_) fun k3 => ?_
  · refine ldAggX 20 10 h5 (hl := (by show 20 + 10 ≤ 59; decide)) ?_
    refine setW (m' := { zM m.kind m.frm m.to m.corr m.er with fd := m.fd }) (cs := m.fd.cells) h4 rfl (Fd.ones _) (by show 20 + 10 ≤ 59; decide) (by kernel_rfl) fun w5 h6 => ?_
    exact fin (by unfold Ms.br; rw [if_neg k1, if_neg k2, if_pos k3]) h6
  refine ifB_beq (fun k4 => ?_) fun k4 => ?_
  · refine ldAggX 30 6 h5 (hl := (by show 30 + 6 ≤ 59; decide)) ?_
    refine setW (m' := { zM m.kind m.frm m.to m.corr m.er with cd := m.cd }) (cs := m.cd.cells) h4 rfl (Cd.ones _) (by show 30 + 6 ≤ 59; decide) (by kernel_rfl) fun w5 h6 => ?_
    exact fin (by unfold Ms.br; rw [if_neg k1, if_neg k2, if_neg k3, if_pos k4]) h6
  · have h6 : Sat W w3 (Blk g1 m.cells T_api_Msg :: Blk g2 zMs.cells T_api_Msg :: l) := h5.sel 3 [0, 2]
    refine setW (m' := { m with rf := zRm }) (cs := zRm.cells) h6 rfl (Rm.ones _) (by show 5 + 10 ≤ 59; decide) (by kernel_rfl) fun w4 h7 => ?_
    refine setW (m' := { m with rf := zRm, fq := zFq }) (cs := zFq.cells) h7 rfl (by intro u hu; simp only [Fq.cells, List.mem_cons, List.not_mem_nil, or_false] at hu; rcases hu with rfl | rfl | rfl | rfl | rfl <;> rfl) (by show 15 + 5 ≤ 59; decide) (by kernel_rfl) fun w5 h8 => ?_
    refine setW (m' := { m with rf := zRm, fq := zFq, fd := zFd }) (cs := zFd.cells) h8 rfl (Fd.ones _) (by show 20 + 10 ≤ 59; decide) (by kernel_rfl) fun w6 h9 => ?_
    refine setW (m' := { m with rf := zRm, fq := zFq, fd := zFd, cd := zCd }) (cs := zCd.cells) h9 rfl (Cd.ones _) (by show 30 + 6 ≤ 59; decide) (by kernel_rfl) fun w7 h10 => ?_
    have e : ({ m with rf := zRm, fq := zFq, fd := zFd, cd := zCd } : Ms) = m.br := by unfold Ms.br; rw [if_neg k1, if_neg k2, if_neg k3, if_neg k4]
    rw [e] at h10
    refine ldAggB h10 (by kernel_rfl) ?_
    have h11 := h10.swap
    refine stAggB (cs := zMs.cells) (cs' := m.br.cells) h11 rfl (Ms.ones _) (by kernel_rfl) fun w8 h12 => ?_
    exact ldAggB h12 (by kernel_rfl) (hK w8 h12.tail.tail)
end
end Go.Proofs.Ytokogdigfohbeaa
