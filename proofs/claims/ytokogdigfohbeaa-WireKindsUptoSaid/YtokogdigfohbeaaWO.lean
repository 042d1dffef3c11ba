/- Layer 17: what is written is read: plain; what a read message owns. -/
import Derived.Test.YtokogdigfohbeaaWN
namespace Go.Proofs.Ytokogdigfohbeaa
open Go Go.Pk
theorem not_bad {t : List UInt8} (h : ¬ badM t) : okMd (tkMd t 0 0).1 ∧ encMd (tkMd t 0 0).1 = t := by
  unfold badM at h
  have h1 : endE t (tkMd t 0 0).2.1 (tkMd t 0 0).2.2 = 0 := Decidable.byContradiction h
  have he : (tkMd t 0 0).2.2 = 0 := by
    unfold endE at h1
    split at h1
    · cases h1
    · exact h1
  have hp : ¬ (tkMd t 0 0).2.1 < t.length := by
    intro hlt
    unfold endE at h1
    rw [if_pos ⟨he, hlt⟩] at h1
    cases h1
  obtain ⟨b1, b2, b3⟩ := fmMd.back (Nat.zero_le _) he
  rw [List.drop_zero, List.drop_of_length_le (by omega), List.append_nil] at b2
  exact ⟨b1, b2.symm⟩
theorem good_enc {x : Md} (h : okMd x) : ¬ badM (encMd x) ∧ (tkMd (encMd x) 0 0).1 = x := by
  have hh := fmMd.hits (t := encMd x) (p := 0) (r := []) h (by simp)
  refine ⟨?_, by rw [hh]⟩
  unfold badM
  rw [hh]
  simp only [Nat.zero_add]
  unfold endE
  rw [if_neg (by omega)]
  simp
theorem bad_cut {x : Md} (h : okMd x) {m : Nat} (hm : m < (encMd x).length) : badM ((encMd x).take m) := by
  have hh := fmMd.cut (t := (encMd x).take m) (p := 0) (m := m) h (by simp) hm
  refine bad_of ?_
  rw [hh]; decide
theorem bad_more {x : Md} (h : okMd x) {r : List UInt8} (hr : r ≠ []) : badM (encMd x ++ r) := by
  have hh := fmMd.hits (t := encMd x ++ r) (p := 0) (r := r) h (by simp)
  unfold badM
  rw [hh]
  simp only [Nat.zero_add]
  unfold endE
  have : 0 < r.length := List.length_pos_iff.2 hr
  rw [if_pos ⟨rfl, by simp; omega⟩]
  decide
theorem nf_bare {d : Dc} (h : okD d.bare) : d.nf = d.bare := by
  have h1 := (okD_ly h).2
  unfold Dc.nf at h1 ⊢
  by_cases hn : d.no
  · rw [if_pos hn]
    rw [if_pos (show d.bare.no from hn)] at h1
    exact h1
  · rw [if_neg hn]
theorem map_nf {l : List Dc} (h : ∀ d ∈ l.map Dc.bare, okD d) : l.map Dc.nf = l.map Dc.bare := by
  refine List.map_congr_left fun d hd => nf_bare (h _ (List.mem_map.2 ⟨d, hd, rfl⟩))
/-- what was read and is fit: the same data as what would be written -/
theorem d_eq {m : Ms} (h : okMd m.dB) : m.d = m.dB := by
  have h2 := h.2
  show (m.hd, m.rest) = (m.hd, m.restB)
  congr 1
  have h3 : okRest m.kind m.restB := h2
  unfold Ms.restB at h3 ⊢
  unfold Ms.rest
  by_cases h1 : m.kind = 1
  · simp only [h1, if_true]
  · simp only [h1, if_false] at h3 ⊢
    by_cases h2 : m.kind = 2
    · simp only [h2, if_true]
    · simp only [h2, if_false] at h3 ⊢
      by_cases h4 : m.kind = 3
      · simp only [h4, if_true] at h3 ⊢
        rw [map_nf h3.2.2.2]
      · simp only [h4, if_false] at h3 ⊢
        by_cases h5 : m.kind = 4
        · simp only [h5, if_true]
        · simp only [h5, if_false] at h3 ⊢
          unfold Ms.cl at h3 ⊢
          rw [nf_bare h3.2.2.2.2.1, map_nf h3.2.2.2.2.2.1.2]
theorem num_of_okD {d : Dc} (h : okD d.bare) : d.num := by
  obtain ⟨hb, h | ⟨hn, _⟩⟩ := h
  · have e : d.num ↔ d.bare.num := Iff.rfl
    rw [e, h]
    exact ⟨⟨by decide, by decide⟩, ⟨by decide, by decide⟩, ⟨by decide, by decide⟩, ⟨by decide, by decide⟩, ⟨by decide, by decide⟩⟩
  · exact hn
theorem okI0 : okI 0 := ⟨by decide, by decide⟩
theorem zeroDc_num : zeroDc.num := ⟨okI0, okI0, ⟨by decide, by decide⟩, okI0, okI0⟩
theorem zRm_num : zRm.num := ⟨fun i hi => by simp [Rm.ns, zRm] at hi; subst hi; exact okI0, fun y hy => by cases hy⟩
theorem zFq_num : zFq.num := fun i hi => by simp [Fq.ns, zFq] at hi; subst hi; exact okI0
theorem zFd_num : zFd.num := ⟨fun i hi => by simp [Fd.ns, zFd] at hi; subst hi; exact okI0, fun y hy => by cases hy⟩
theorem zCd_num : zCd.num := ⟨okI0, okI0, okI0, okI0, okI0, fun i hi => by cases hi⟩
/-- its numbers are numbers -/
theorem num_of {m : Ms} (ho : m.only) (h : okMd m.dB) : m.num := by
  have h3 : okRest m.kind m.restB := h.2
  have hh : ∀ i ∈ m.hd, okI i := h.1.1.2
  unfold Ms.restB at h3
  by_cases k1 : m.kind = 1
  · obtain ⟨c1, c2, c3, c4, c5, c6, c7⟩ := ho.cl (.inl k1)
    simp only [k1, if_true] at h3
    refine ⟨hh, ⟨h3.2.1.2, fun y hy => ?_⟩, ?_, ?_, ?_, ?_, ?_, ?_, ?_, ?_, ?_⟩
    · exact (h3.2.2.1.2 _ (List.mem_map.2 ⟨y, hy, rfl⟩)).1
    · rw [ho.fq (by omega)]; exact zFq_num
    · rw [ho.fd (by omega)]; exact zFd_num
    · rw [ho.cd (by omega)]; exact zCd_num
    · rw [c1]; exact zeroDc_num
    · rw [c2]; intro i hi; simp at hi; subst hi; exact okI0
    · rw [c3]; exact ⟨by decide, by decide⟩
    · rw [c5]; intro i hi; cases hi
    · rw [c6]; intro i hi; cases hi
    · rw [c7]; intro i hi; cases hi
  · simp only [k1, if_false] at h3
    by_cases k2 : m.kind = 2
    · obtain ⟨c1, c2, c3, c4, c5, c6, c7⟩ := ho.cl (.inr (.inl k2))
      simp only [k2, if_true] at h3
      refine ⟨hh, ?_, h3.2.2, ?_, ?_, ?_, ?_, ?_, ?_, ?_, ?_⟩
      · rw [ho.rf k1]; exact zRm_num
      · rw [ho.fd (by omega)]; exact zFd_num
      · rw [ho.cd (by omega)]; exact zCd_num
      · rw [c1]; exact zeroDc_num
      · rw [c2]; intro i hi; simp at hi; subst hi; exact okI0
      · rw [c3]; exact ⟨by decide, by decide⟩
      · rw [c5]; intro i hi; cases hi
      · rw [c6]; intro i hi; cases hi
      · rw [c7]; intro i hi; cases hi
    · simp only [k2, if_false] at h3
      by_cases k3 : m.kind = 3
      · obtain ⟨c1, c2, c3, c4, c5, c6, c7⟩ := ho.cl (.inr (.inr (.inl k3)))
        simp only [k3, if_true] at h3
        refine ⟨hh, ?_, ?_, ⟨h3.2.1.2, fun y hy => ?_⟩, ?_, ?_, ?_, ?_, ?_, ?_, ?_⟩
        · rw [ho.rf k1]; exact zRm_num
        · rw [ho.fq k2]; exact zFq_num
        · exact num_of_okD (h3.2.2.2 _ (List.mem_map.2 ⟨y, hy, rfl⟩))
        · rw [ho.cd (by omega)]; exact zCd_num
        · rw [c1]; exact zeroDc_num
        · rw [c2]; intro i hi; simp at hi; subst hi; exact okI0
        · rw [c3]; exact ⟨by decide, by decide⟩
        · rw [c5]; intro i hi; cases hi
        · rw [c6]; intro i hi; cases hi
        · rw [c7]; intro i hi; cases hi
      · simp only [k3, if_false] at h3
        by_cases k4 : m.kind = 4
        · obtain ⟨c1, c2, c3, c4, c5, c6, c7⟩ := ho.cl (.inr (.inr (.inr k4)))
          simp only [k4, if_true] at h3
          refine ⟨hh, ?_, ?_, ?_, ?_, ?_, ?_, ?_, ?_, ?_, ?_⟩
          · rw [ho.rf k1]; exact zRm_num
          · rw [ho.fq k2]; exact zFq_num
          · rw [ho.fd k3]; exact zFd_num
          · have g := h3.2.1.1.2
            exact ⟨g _ (by simp [Cd.d]), g _ (by simp [Cd.d]), g _ (by simp [Cd.d]), g _ (by simp [Cd.d]), g _ (by simp [Cd.d]), h3.2.1.2.2⟩
          · rw [c1]; exact zeroDc_num
          · rw [c2]; intro i hi; simp at hi; subst hi; exact okI0
          · rw [c3]; exact ⟨by decide, by decide⟩
          · rw [c5]; intro i hi; cases hi
          · rw [c6]; intro i hi; cases hi
          · rw [c7]; intro i hi; cases hi
        · simp only [k4, if_false] at h3
          unfold Ms.cl at h3
          obtain ⟨_, g1, g2, g3, g4, g5, g6, g7⟩ := h3
          refine ⟨hh, ?_, ?_, ?_, ?_, num_of_okD g4, g1.2, ⟨ho.pid, ?_⟩, g3.1.2, fun y hy => num_of_okD (g5.2 _ (List.mem_map.2 ⟨y, hy, rfl⟩)), fun y hy => ?_⟩
          · rw [ho.rf k1]; exact zRm_num
          · rw [ho.fq k2]; exact zFq_num
          · rw [ho.fd k3]; exact zFd_num
          · rw [ho.cd k4]; exact zCd_num
          · have : m.pid.toNat < 2 ^ 64 := g2
            omega
          · obtain ⟨e1, e2, e3⟩ := g7 _ (List.mem_map.2 ⟨y, hy, rfl⟩)
            have : y.pid.toNat < 2 ^ 64 := e1
            exact ⟨⟨y.pos, by omega⟩, e2, e3⟩
/-- its size -/
theorem w_of {m : Ms} (ho : m.only) (h : okMd m.dB) : m.w ≤ 2 ^ 44 := by
  have h3 : okRest m.kind m.restB := h.2
  unfold Ms.restB at h3
  have hmw : m.w = 1000 + 20 * m.rf.wt + 2010 * m.fd.bl.length + 10 * m.mi.length + 2010 * m.bl.length + 30 * m.al.length := rfl
  have z1 : zRm.wt = 0 := rfl
  have z2 : zFd.bl.length = 0 := rfl
  by_cases k1 : m.kind = 1
  · obtain ⟨c1, c2, c3, c4, c5, c6, c7⟩ := ho.cl (.inl k1)
    simp only [k1, if_true] at h3
    have hr : m.rf.wt = wsum (fun y : En17 => y.d.length + 1) m.rf.el + m.rf.snap.length := rfl
    have key : ∀ l : List En17, (∀ y ∈ l, y.d.length ≤ 4096) → wsum (fun y : En17 => y.d.length + 1) l ≤ 4097 * l.length := by
      intro l
      induction l with
      | nil => intro _; simp [wsum]
      | cons y l ih =>
        intro hl
        have := ih fun z hz => hl z (by simp [hz])
        have := hl y (by simp)
        simp only [wsum, List.length_cons, Nat.mul_add]; omega
    have h4 := key m.rf.el fun y hy => (h3.2.2.1.2 _ (List.mem_map.2 ⟨y, hy, rfl⟩)).2
    have h5 := h3.2.2.1.1
    rw [List.length_map] at h5
    have h6 := h3.2.2.2
    rw [ho.fd (by omega), c5, c6, c7] at hmw
    simp only [z2, List.length_nil] at hmw
    omega
  · simp only [k1, if_false] at h3
    rw [ho.rf k1, z1] at hmw
    by_cases k2 : m.kind = 2
    · obtain ⟨c1, c2, c3, c4, c5, c6, c7⟩ := ho.cl (.inr (.inl k2))
      rw [ho.fd (by omega), c5, c6, c7] at hmw
      simp only [z2, List.length_nil] at hmw
      omega
    · simp only [k2, if_false] at h3
      by_cases k3 : m.kind = 3
      · obtain ⟨c1, c2, c3, c4, c5, c6, c7⟩ := ho.cl (.inr (.inr (.inl k3)))
        simp only [k3, if_true] at h3
        have h5 := h3.2.2.1
        rw [List.length_map] at h5
        rw [c5, c6, c7] at hmw
        simp only [List.length_nil] at hmw
        omega
      · simp only [k3, if_false] at h3
        rw [ho.fd k3, z2] at hmw
        by_cases k4 : m.kind = 4
        · obtain ⟨c1, c2, c3, c4, c5, c6, c7⟩ := ho.cl (.inr (.inr (.inr k4)))
          rw [c5, c6, c7] at hmw
          simp only [List.length_nil] at hmw
          omega
        · simp only [k4, if_false] at h3
          unfold Ms.cl at h3
          obtain ⟨_, g1, g2, g3, g4, g5, g6, g7⟩ := h3
          have e1 := g3.1.1
          have e2 := g5.1
          rw [List.length_map] at e2 g6
          omega
section
variable {W w : World} {l L : List Res} {K : Value → World → Prop} {t : List UInt8} {m : Ms}
theorem Rd.all {ms : List Res} {R : Res} {s : Sl} {sz : Nat} {xs : List Value} (hR : R ∈ ms) (h : ∀ l', Rd W (R :: l') s sz xs) : Rd W (All ms :: l) s sz xs := by
  intro w hs
  obtain ⟨l', h'⟩ := sat_mem hR hs
  exact h l' w h'
theorem VRd.ownDc {d : Dc} (hd : d.ss.length = d.bs.length) : VRd W (elDc.own d :: l) d := by
  have h : ∀ l', VRd W (VsR d.vs d.ss d.bs :: l') d := fun l' => VRd.own (d := d) hd
  exact ⟨Rd.all (R := VsR d.vs d.ss d.bs) (by simp) fun l' => (h l').1, hd, fun i s b h1 h2 => Rd.all (R := VsR d.vs d.ss d.bs) (by simp) fun l' => (h l').2.2 i s b h1 h2⟩
theorem own_hd {s : Sl} {xs : List Dc} (h : Sat W w (OwnS elDc s xs :: l)) {d : Dc} (hd : d ∈ xs) : d.ss.length = d.bs.length := by
  obtain ⟨i, hi⟩ := List.getElem?_of_mem hd
  have h1 := (sat_own.1 h).tail
  have h2 := own_split (i := i) (R := elDc.own d) (by simp [hi]) h1
  exact (sat_ownDc.1 h2).1
theorem VRd.ownS {s : Sl} {xs : List Dc} {d : Dc} (hd : d ∈ xs) (hl : d.ss.length = d.bs.length) : VRd W (OwnS elDc s xs :: l) d := by
  obtain ⟨i, hi⟩ := List.getElem?_of_mem hd
  have h : ∀ l', VRd W (elDc.own d :: l') d := fun l' => VRd.ownDc hl
  exact ⟨Rd.ownE hi fun l' => (h l').1, hl, fun j s b h1 h2 => Rd.ownE hi fun l' => (h l').2.2 j s b h1 h2⟩
/-- a message that was read, as it is read -/
theorem ownM_rd (h : Sat W w (ownM m :: l)) : MRd W (ownM m :: l) m := by
  have m0 : OwnS elDc m.fd.bs m.fd.bl ∈ [OwnS elEn m.rf.es m.rf.el, BsR m.rf.ss m.rf.snap, OwnS elDc m.fd.bs m.fd.bl, IsR m.cd.ls m.cd.li, elDc.own m.bt, IsR m.ms m.mi, OwnS elDc m.bs m.bl, OwnS elAb m.av m.al] := by simp
  have m1 : OwnS elDc m.bs m.bl ∈ [OwnS elEn m.rf.es m.rf.el, BsR m.rf.ss m.rf.snap, OwnS elDc m.fd.bs m.fd.bl, IsR m.cd.ls m.cd.li, elDc.own m.bt, IsR m.ms m.mi, OwnS elDc m.bs m.bl, OwnS elAb m.av m.al] := by simp
  have m2 : elDc.own m.bt ∈ [OwnS elEn m.rf.es m.rf.el, BsR m.rf.ss m.rf.snap, OwnS elDc m.fd.bs m.fd.bl, IsR m.cd.ls m.cd.li, elDc.own m.bt, IsR m.ms m.mi, OwnS elDc m.bs m.bl, OwnS elAb m.av m.al] := by simp
  obtain ⟨l0, h0⟩ := sat_mem m0 h
  obtain ⟨l1, h1⟩ := sat_mem m1 h
  obtain ⟨l2, h2⟩ := sat_mem m2 h
  have hbt := (sat_ownDc.1 h2).1
  have vall : ∀ {R : Res} {d : Dc}, R ∈ [OwnS elEn m.rf.es m.rf.el, BsR m.rf.ss m.rf.snap, OwnS elDc m.fd.bs m.fd.bl, IsR m.cd.ls m.cd.li, elDc.own m.bt, IsR m.ms m.mi, OwnS elDc m.bs m.bl, OwnS elAb m.av m.al] → (∀ l', VRd W (R :: l') d) → VRd W (ownM m :: l) d := fun hR hv =>
    ⟨Rd.all hR fun l' => (hv l').1, (hv []).2.1, fun i s b h1 h2 => Rd.all hR fun l' => (hv l').2.2 i s b h1 h2⟩
  refine ⟨⟨Rd.all (R := OwnS elEn m.rf.es m.rf.el) (by simp) fun _ => Rd.ownS, fun y hy => ?_, Rd.all (R := BsR m.rf.ss m.rf.snap) (by simp) fun _ => Rd.own⟩, ⟨Rd.all m0 fun _ => Rd.ownS, fun d hd => vall m0 fun _ => VRd.ownS hd (own_hd h0 hd)⟩,
    Rd.all (R := IsR m.cd.ls m.cd.li) (by simp) fun _ => Rd.own, vall m2 fun _ => VRd.ownDc hbt, Rd.all (R := IsR m.ms m.mi) (by simp) fun _ => Rd.own, ⟨Rd.all m1 fun _ => Rd.ownS, fun d hd => vall m1 fun _ => VRd.ownS hd (own_hd h1 hd)⟩, Rd.all (R := OwnS elAb m.av m.al) (by simp) fun _ => Rd.ownS⟩
  obtain ⟨i, hi⟩ := List.getElem?_of_mem hy
  exact Rd.all (R := OwnS elEn m.rf.es m.rf.el) (by simp) fun _ => Rd.ownE hi fun _ => Rd.own
end
end Go.Proofs.Ytokogdigfohbeaa
