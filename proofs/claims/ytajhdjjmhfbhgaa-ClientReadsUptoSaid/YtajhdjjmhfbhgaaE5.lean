/- Texts of mine, put together: KCn, KCo, KCp, KCq, KCr, KCt, KCs. -/
import Derived.Test.YtajhdjjmhfbhgaaE4
import Derived.Test.YtajhdjjmhfbhgaaKVm
import Derived.Test.YtajhdjjmhfbhgaaKJ
/- Layer 19's law, plain: a consumer alone is answered. -/
namespace Go.Proofs.Ytajhdjjmhfbhgaa
open Go Go.Pk
theorem mem_drop_of {α : Type} {l : List α} {n : Nat} {x : α} (h : x ∈ l.drop n) : x ∈ l := List.mem_of_mem_drop h
section
variable {D R : List Bt} {st a s : Int} {ol : List Oc} {c : Cl} {m : Rp}
theorem bend_eq {b : Bt} (h : BtF b) (h0 : 0 ≤ b.base) (hb : b.base + sz b ≤ 1000000) : bend b = b.base + sz b := by
  have hs := sz_pos h
  have e : bsz b = sz b := by unfold bsz sz; rw [h.vs]
  unfold bend
  rw [e]
  exact w_i64 (by omega) (by omega)
theorem cmts_skip {to from_ : Int} : ∀ (u R : List Bt) (k : Nat), (∀ b ∈ u, bend b ≤ from_) → k ≠ 0 → cmts to from_ (u ++ R) k = cmts to from_ R k
  | [], R, k, _, _ => rfl
  | b :: u, R, k, h, hk => by
    show (if k = 0 then [] else if bend b > from_ then _ else cmts to from_ (u ++ R) k) = _
    have := h b (by simp)
    rw [if_neg hk, if_neg (by omega)]
    exact cmts_skip u R k (fun c hc => h c (by simp [hc])) hk
/-- of what ends behind a place so many are told -/
theorem cmts_take {to from_ : Int} : ∀ (R : List Bt) (e : Int) (k : Nat), Fine e R → 0 ≤ e → (∀ b ∈ R, b.base + sz b ≤ 1000000) → (∀ b ∈ R, bend b > from_) → ∃ m, m ≤ k ∧ cmts to from_ R k = R.take m ∧ (∀ b ∈ R.take m, bend b ≤ to) ∧ (m = k ∨ ∀ b ∈ R.drop m, to < bend b)
  | [], e, k, _, _, _, _ => ⟨0, Nat.zero_le _, rfl, by simp, .inr (by simp)⟩
  | b :: R, e, 0, _, _, _, _ => ⟨0, Nat.le_refl _, rfl, by simp, .inl rfl⟩
  | b :: R, e, k + 1, hf, he, hb, hgt => by
    obtain ⟨h1, h2, h3⟩ := hf
    have hs := sz_pos h2
    have hbe := bend_eq h2 (by omega) (hb b (by simp))
    have hst : cmts to from_ (b :: R) (k + 1) = (if bend b ≤ to then [b] else []) ++ cmts to from_ R k := by
      show (if k + 1 = 0 then [] else if bend b > from_ then (if bend b ≤ to then [b] else []) ++ cmts to from_ R (k + 1 - 1) else _) = _
      rw [if_neg (by omega), if_pos (hgt b (by simp))]; rfl
    by_cases hle : bend b ≤ to
    · obtain ⟨m, hm1, hm2, hm3, hm4⟩ := cmts_take R (e + sz b) k h3 (by omega) (fun c hc => hb c (by simp [hc])) (fun c hc => hgt c (by simp [hc]))
      refine ⟨m + 1, by omega, ?_, ?_, ?_⟩
      · rw [hst, if_pos hle, hm2]; rfl
      · intro c hc
        rcases List.mem_cons.1 hc with rfl | hc
        · exact hle
        · exact hm3 c hc
      · rcases hm4 with hm4 | hm4
        · exact .inl (by omega)
        · exact .inr hm4
    · have hall : ∀ c ∈ R, to < bend c := by
        intro c hc
        have := Fine.ge h3 c hc
        have hcF := Fine.btF h3 c hc
        have := sz_pos hcF
        rw [bend_eq hcF (by omega) (hb c (by simp [hc]))]
        omega
      refine ⟨0, Nat.zero_le _, ?_, by simp, .inr (fun c hc => ?_)⟩
      · rw [hst, if_neg hle]
        obtain ⟨m, hm1, hm2, hm3, hm4⟩ := cmts_take (to := to) R (e + sz b) k h3 (by omega) (fun c hc => hb c (by simp [hc])) (fun c hc => hgt c (by simp [hc]))
        rw [hm2]
        cases hR : R.take m with
        | nil => rfl
        | cons y ys =>
          have hy : y ∈ R.take m := by rw [hR]; simp
          have := hm3 y hy
          have := hall y (List.mem_of_mem_take hy)
          omega
      · rcases List.mem_cons.1 hc with rfl | hc
        · omega
        · exact hall c hc
theorem lend_last {l : List Bt} {b : Bt} (h : l.getLast? = some b) : lend l = bend b := by unfold lend; rw [h]
/-- ends rise -/
theorem bend_last : ∀ {l : List Bt} {e : Int}, Fine e l → 0 ≤ e → (∀ b ∈ l, b.base + sz b ≤ 1000000) → ∀ b ∈ l, bend b ≤ lend l
  | [b], e, hf, he, hb, c, hc => by
    rw [List.mem_singleton.1 hc]
    rw [lend_last (l := [b]) rfl]; exact Int.le_refl _
  | b :: b2 :: l, e, hf, he, hb, c, hc => by
    obtain ⟨h1, h2, h3⟩ := hf
    have hs := sz_pos h2
    have ih := bend_last (l := b2 :: l) h3 (by omega) (fun c hc => hb c (by simp [hc]))
    have hl : lend (b :: b2 :: l) = lend (b2 :: l) := by unfold lend; rw [List.getLast?_cons_cons]
    rw [hl]
    rcases List.mem_cons.1 hc with rfl | hc
    · have hb2 := ih b2 (by simp)
      have hb2F := Fine.btF h3 b2 (by simp)
      have hge := Fine.ge h3 b2 (by simp)
      have := sz_pos hb2F
      rw [bend_eq hb2F (by omega) (hb b2 (by simp))] at hb2
      rw [bend_eq h2 (by omega) (hb c (by simp))]
      omega
    · exact ih c hc
theorem firstB_le {l : List Bt} {e : Int} (hf : Fine e l) : ∀ b ∈ l, firstB l ≤ b.base := by
  intro b hb
  cases l with
  | nil => cases hb
  | cons x l =>
    have := Fine.ge hf b hb
    obtain ⟨h1, _⟩ := hf
    show x.base ≤ _
    omega
theorem fine_take {l : List Bt} {e : Int} (h : Fine e l) (m : Nat) : Fine e (l.take m) := by
  rw [← List.take_append_drop m l] at h
  exact (Fine.app h).1
theorem tabl_all {l : List Bt} {e : Int} (hf : Fine e l) (he : 0 ≤ e) (hb : ∀ b ∈ l, b.base + sz b ≤ 1000000) : tabl l (lend l) = l.filter fun b => decide (b.pid > 0) := by
  unfold tabl
  apply List.filter_congr
  intro b hbm
  have := bend_last hf he hb b hbm
  simp [this]
/-- in an answer what is aborted is what isn't committed -/
theorem ok_iff {bl : List Bt} {k : Nat} {to : Int} {u' : List Bt} {b : Bt} {v u : List Bt} {e : Int} (hD : Fine 0 D) (hbnd : ∀ b ∈ D, b.base + sz b ≤ 1000000) (hDR : D = u ++ R) (hf : Fine e R) (he : 0 ≤ e) (hbl : bl = R.take k) (hle : ∀ b ∈ bl, bend b ≤ to) (hR : R = u' ++ b :: v) (hu : u'.length < k) :
    okL to b v = (!b.control && !isAborted b (if bl = [] then [] else aborts (tabl D (lend D)) (firstB bl) (lend bl))) := by
  have hbm : b ∈ bl := by
    rw [hbl, hR, List.take_append]
    refine List.mem_append_right _ ?_
    obtain ⟨j, hj⟩ : ∃ j, k - u'.length = j + 1 := ⟨k - u'.length - 1, by omega⟩
    rw [hj, List.take_succ_cons]
    simp
  have hne : bl ≠ [] := by intro h; rw [h] at hbm; cases hbm
  rw [if_neg hne]
  have hbR : b ∈ R := by rw [hR]; simp
  have hbD : b ∈ D := by rw [hDR]; exact List.mem_append_right _ hbR
  have hbF := Fine.btF hf b hbR
  have hge := Fine.ge hf b hbR
  have hs := sz_pos hbF
  have hbe := bend_eq hbF (by omega) (hbnd b hbD)
  have h1 := hle b hbm
  have hblf : Fine e bl := by rw [hbl]; exact fine_take hf k
  have hblb : ∀ c ∈ bl, c.base + sz c ≤ 1000000 := fun c hc => hbnd c (by rw [hDR]; exact List.mem_append_right _ (by rw [hbl] at hc; exact List.mem_of_mem_take hc))
  have hbase : decide (b.base < to) = true := decide_eq_true (by omega)
  cases hcc : b.control with
  | true => unfold okL; rw [hcc]; simp
  | false =>
    cases htx : b.txn with
    | false =>
      have : isAborted b (aborts (tabl D (lend D)) (firstB bl) (lend bl)) = false := by
        unfold isAborted
        rw [List.any_eq_false]
        intro x _
        rw [htx]; simp
      unfold okL
      rw [this, hcc, htx, hbase]; rfl
    | true =>
      have hiff := aborted_iff (dl := D) (pre := u ++ u') (post := v) (b := b) (lo := firstB bl) (hi := lend bl) hD (Int.le_refl _) (by rw [hDR, hR, List.append_assoc]) hcc htx (firstB_le hblf b hbm) (by
        have := bend_last hblf he hblb b hbm
        omega)
      rw [tabl_all hD (Int.le_refl _) hbnd]
      unfold okL
      rw [hcc, htx, hbase]
      simp only [Bool.not_false, Bool.true_and, if_true]
      cases hm : mark b.pid v with
      | none =>
        have : isAborted b (aborts (D.filter fun b => decide (b.pid > 0)) (firstB bl) (lend bl)) = false := by
          cases h : isAborted b (aborts (D.filter fun b => decide (b.pid > 0)) (firstB bl) (lend bl)) with
          | false => rfl
          | true => rw [hiff.1 h] at hm; cases hm
        rw [this]; rfl
      | some f =>
        cases f with
        | false => rw [hiff.2 hm]; rfl
        | true =>
          have : isAborted b (aborts (D.filter fun b => decide (b.pid > 0)) (firstB bl) (lend bl)) = false := by
            cases h : isAborted b (aborts (D.filter fun b => decide (b.pid > 0)) (firstB bl) (lend bl)) with
            | false => rfl
            | true => rw [hiff.1 h] at hm; cases hm
          rw [this]; rfl
theorem allR_nil : ∀ {R : List Bt}, (∀ b ∈ R, st ≤ b.base) → allR st R = []
  | [], _ => rfl
  | b :: R, h => by
    have hb := h b (by simp)
    have : okL st b R = false := by unfold okL; rw [decide_eq_false (show ¬ b.base < st by omega)]; simp
    show (if okL st b R then _ else []) ++ allR st R = []
    rw [this, allR_nil fun c hc => h c (by simp [hc])]; rfl
theorem rem_nil (h : ∀ b ∈ R, st ≤ b.base) : rem st a R = [] := by
  cases R with
  | nil => rfl
  | cons b R =>
    have hb := h b (by simp)
    have : okL st b R = false := by unfold okL; rw [decide_eq_false (show ¬ b.base < st by omega)]; simp
    show (if okL st b R then _ else []) ++ allR st R = []
    rw [this, allR_nil fun c hc => h c (by simp [hc])]; rfl
theorem Stg.mono {n n' : Nat} (h : Stg D st ol c s n) (hn : n ≤ n') : Stg D st ol c s n' := by
  rcases h with ⟨h1, h2, a, R, h3, h4⟩ | ⟨h1, a, R, h3, h4, h5, h6, h7, h8, h9, h10⟩ | ⟨h1, a, R, h3, h4, h5, h6, h7, h8, h9, h10, h11, h12⟩ | h
  · exact .inl ⟨h1, h2, a, R, h3, by omega⟩
  · exact .inr (.inl ⟨h1, a, R, h3, h4, h5, h6, h7, h8, h9, by omega⟩)
  · exact .inr (.inr (.inl ⟨h1, a, R, h3, h4, h5, h6, h7, h8, h9, h10, h11, by omega⟩))
  · exact .inr (.inr (.inr h))
theorem Idle.pos {n : Nat} (h : Idle D st ol c s n) : 1 ≤ n := by
  obtain ⟨_, _, a, R, q, hp⟩ := h
  have h0 := q.op
  unfold pot at hp
  cases hf : finR ol c with
  | false => rw [hf] at hp; simp only [Bool.false_eq_true, if_false] at hp; omega
  | true =>
    have : c.op.toNat < ol.length := by
      rcases Nat.lt_or_ge c.op.toNat ol.length with hh | hh
      · exact hh
      · unfold finR at hf
        rw [List.getElem?_eq_none hh] at hf
        cases hf
    omega
/-- it decides as long as it is idle -/
theorem idle_decides (hl : Log D st ol) : ∀ (k n : Nat) (c : Cl), Idle D st ol c s n → Stg D st ol (decides k c) s n
  | 0, n, c, h => .inl h
  | k + 1, n, c, h => by
    have h1 := h.pos
    obtain ⟨hw, ho, a, R, q, hp⟩ := h
    show Stg D st ol (if c.waits = true ∨ c.done = true then c else decides k c.decide) s n
    rw [if_neg (by rw [hw, q.done]; decide)]
    have h2 := idle_decide hl (n - 1) (c := c) (s := s) (by
      have : n - 1 + 1 = n := by omega
      rw [this]; exact ⟨hw, ho, a, R, q, hp⟩)
    have stop : (c.decide.waits = true ∨ c.decide.done = true) → Stg D st ol (decides k c.decide) s n := fun hh => by
      rw [decides_stop hh]; exact h2.mono (by omega)
    rcases h2 with h2 | h2 | h2 | h2
    · exact (idle_decides hl k (n - 1) c.decide h2).mono (by omega)
    · exact stop (.inl h2.1)
    · exact stop (.inl h2.1)
    · exact stop (.inr h2.1)
/-- who waits has asked -/
def OutW (c : Cl) : Prop := c.waits = true → ∃ to, c.out = some to
theorem outW_ask (c : Cl) (a : Aq) : OutW (c.ask a) := fun _ => ⟨_, rfl⟩
theorem outW_no {c : Cl} (h : c.waits = false) : OutW c := fun hh => by rw [h] at hh; cases hh
theorem settle_W {c : Cl} {ps : List Int} (h : c.waits = false) : OutW (c.settle ps).1 := by
  unfold Cl.settle
  split
  · exact outW_ask _ _
  · split
    · exact outW_ask _ _
    · exact outW_no h
theorem prepare_W {c : Cl} {k : Int} (h : c.waits = false) : OutW (c.prepare k).1 := by
  unfold Cl.prepare
  split
  · exact outW_ask _ _
  · split
    · exact outW_no h
    · exact outW_ask _ _
theorem send_W {c : Cl} {k : Int} {vs : List ByteArray} (h : c.waits = false) : OutW (c.send k vs) := by
  unfold Cl.send
  split
  · exact prepare_W h
  · exact outW_ask _ _
theorem endT_W {c : Cl} {t : Bool} (h : c.waits = false) : OutW (c.endT t) := by
  unfold Cl.endT
  split
  · exact outW_no h
  · exact outW_ask _ _
theorem poll_W {c : Cl} {o : Oc} (h : c.waits = false) : OutW (c.poll o) := by
  unfold Cl.poll
  split
  · exact settle_W h
  · split
    · exact outW_ask _ _
    · split
      · exact outW_ask _ _
      · exact outW_no h
theorem copy_W {c : Cl} {o : Oc} (h : c.waits = false) : OutW (c.copy o) := by
  unfold Cl.copy
  split
  · exact outW_no h
  split
  · exact settle_W h
  split
  · exact outW_no h
  split
  · split
    · exact settle_W h
    · exact outW_ask _ _
  split
  · split
    · exact prepare_W h
    · exact send_W h
  split
  · exact outW_ask _ _
  · have := endT_W (c := c) (t := true) h
    exact this
theorem decide_W {c : Cl} (h : c.waits = false) : OutW c.decide := by
  unfold Cl.decide
  split
  · exact outW_no h
  split
  · exact outW_ask _ _
  split
  · exact outW_no h
  · unfold Cl.deed
    split
    · exact send_W h
    split
    · exact endT_W h
    split
    · exact endT_W h
    split
    · exact poll_W h
    · exact copy_W h
theorem decides_W : ∀ (k : Nat) (c : Cl), OutW c → OutW (decides k c)
  | 0, c, h => h
  | k + 1, c, h => by
    show OutW (if c.waits = true ∨ c.done = true then c else decides k c.decide)
    split
    · exact h
    · rename_i hc
      have hw : c.waits = false := by cases hh : c.waits with | false => rfl | true => exact absurd (.inl hh) hc
      exact decides_W k _ (decide_W hw)
theorem idle_decides2 (hl : Log D st ol) (k n : Nat) (c : Cl) (h : Idle D st ol c s n) : Stg D st ol (decides k c) s n ∧ OutW (decides k c) := ⟨idle_decides hl k n c h, decides_W k c (outW_no h.1)⟩
/-- its place was noted -/
theorem askC_handle (hl : Log D st ol) {n : Nat} (h : AskC D st ol c s (n + 1)) (ho : c.out = none) (hk : m.kind = 15) (hc : m.corr = c.asked.corr) (hi : m.inc = 0) (he : m.er = 0) : Stg D st ol (c.handle m) c.asked.offset n ∧ OutW (c.handle m) := by
  obtain ⟨hw, a, R, q, k1, k2, k3, k4, k5, k6, k7, k8, k9⟩ := h
  rw [handle_eq hw hk hc (by rw [hi, q.inc]) he]
  refine idle_decides2 hl 8 n _ ?_
  have e : ({ c with waits := false } : Cl).answered m = { c with waits := false, sure := [a] } := by
    unfold Cl.answered
    rw [if_neg (by show ¬ c.asked.kind = 7; omega), if_neg (by show ¬ c.asked.kind = 8; omega), if_neg (by show ¬ c.asked.kind = 5; omega), if_neg (by show ¬ c.asked.kind = 9; omega), if_neg (by show ¬ c.asked.kind = 13; omega)]
    unfold Cl.placed
    rw [if_neg (by show ¬ c.asked.kind = 11; omega), if_neg (by show ¬ c.asked.kind = 14; omega), if_pos k1]
    show ({ c with waits := false, sure := seti c.sure c.asked.part c.asked.offset } : Cl) = _
    rw [q.sure, k2, k3]; rfl
  rw [e, k3]
  refine ⟨rfl, ho, a, R, ⟨q.ops, q.parts, q.done, q.inc, q.opn, q.joined, q.gen, q.mine, q.att, rfl, ⟨by have := q.lo; omega, Int.le_refl _⟩, q.suf, q.pos, q.rds, q.op, q.cnt, q.cn2, q.cn3, q.want, q.step, q.dry, q.dr1, q.st1⟩, ?_⟩
  unfold pot
  have hf : finR ol ({ c with waits := false, sure := [a] } : Cl) = true := by
    unfold finR
    show (match ol[c.op.toNat]? with | none => false | some o => !(decide (c.step = 0) && decide (c.count < o.count) && decide (c.dry < 1))) = true
    have h0 := q.op
    rw [List.getElem?_eq_getElem (by omega), k7]
    rfl
  rw [hf]
  simp only [if_true]
  rw [if_neg (by omega)]
  show 5 * (ol.length - c.op.toNat) + 2 * R.length + 0 ≤ n
  omega
end
end Go.Proofs.Ytajhdjjmhfbhgaa

/- Layer 19's law, plain: a consumer reads; it joins its group. -/
namespace Go.Proofs.Ytajhdjjmhfbhgaa
open Go Go.Pk
section
variable {D R : List Bt} {st a s : Int} {ol : List Oc} {c : Cl} {m : Rp}
theorem read_some {o : Oc} {r : Rs} (h : c.ops[c.op.toNat]? = some o) (ho : o.kind ≠ 5) (hr : rdAll o c.asked.part m.al m.bl ⟨c, geti c.att c.asked.part, 0, []⟩ = r) : c.read m = { r.c with turn := nx r.c.turn, count := IntKind.i64.wrap (r.c.count + r.got), dry := if r.got > 0 ∨ r.att > geti r.c.att c.asked.part then 0 else nx r.c.dry, att := seti r.c.att c.asked.part r.att } := by
  unfold Cl.read
  rw [h]
  simp only
  rw [hr, if_neg ho]
/-- what it may read has come -/
theorem askR_handle (hl : Log D st ol) {n : Nat} (h : AskR D st ol c s (n + 1)) (ho : c.out = none) (hk : m.kind = 15) (hc : m.corr = c.asked.corr) (hi : m.inc = 0) (he : m.er = 0)
    (hbl : m.bl = cmts st c.asked.offset D 8) (hal : m.al = if m.bl = [] then [] else aborts (tabl D (lend D)) (firstB m.bl) (lend m.bl)) : Stg D st ol (c.handle m) s n ∧ OutW (c.handle m) := by
  obtain ⟨hw, a, R, q, k1, k2, k3, k4, k5, k6, k7⟩ := h
  rw [handle_eq hw hk hc (by rw [hi, q.inc]) he]
  refine idle_decides2 hl 8 n _ ?_
  have q0 := q.op
  obtain ⟨o, hoo⟩ : ∃ o, ol[c.op.toNat]? = some o := ⟨_, List.getElem?_eq_getElem (by omega)⟩
  obtain ⟨hok, hoc0, hoc16⟩ := op_get hl hoo
  have e1 : ({ c with waits := false } : Cl).answered m = ({ c with waits := false } : Cl).read m := by
    unfold Cl.answered
    rw [if_neg (by show ¬ c.asked.kind = 7; omega), if_neg (by show ¬ c.asked.kind = 8; omega), if_neg (by show ¬ c.asked.kind = 5; omega), if_neg (by show ¬ c.asked.kind = 9; omega), if_neg (by show ¬ c.asked.kind = 13; omega)]
    unfold Cl.placed
    rw [if_neg (by show ¬ c.asked.kind = 11; omega), if_neg (by show ¬ c.asked.kind = 14; omega), if_neg (by show ¬ c.asked.kind = 12; omega), if_pos k1]
  rw [e1]
  have hga : geti c.att 0 = a := by rw [q.att]; rfl
  have qlo := q.lo
  have qc := q.cnt
  have qc2 := q.cn2 o hoo
  have hfin : finR ol c = !(decide (c.step = 0) && decide (c.count < o.count) && decide (c.dry < 1)) := by unfold finR; rw [hoo]
  rw [k5] at hfin
  have hf3 : c.step = 0 ∧ c.count < o.count ∧ c.dry < 1 := by
    have : (decide (c.step = 0) && decide (c.count < o.count) && decide (c.dry < 1)) = true := by
      cases hh : (decide (c.step = 0) && decide (c.count < o.count) && decide (c.dry < 1)) with
      | true => rfl
      | false => rw [hh] at hfin; cases hfin
    simp only [Bool.and_eq_true, decide_eq_true_eq] at this
    exact ⟨this.1.1, this.1.2, this.2⟩
  obtain ⟨hst0, hcl, hdr⟩ := hf3
  have hdry0 : c.dry = 0 := by rcases q.dry with h | h <;> omega
  obtain ⟨u, e, hD, hfR, he0, hea, hub⟩ := q.suf
  have hbD : ∀ b ∈ D, b.base + sz b ≤ 1000000 := fun b hb => by have := hl.bnd b hb; omega
  have hbR : ∀ b ∈ R, b.base + sz b ≤ 1000000 := fun b hb => hbD b (by rw [hD]; exact List.mem_append_right _ hb)
  have hfD := hl.fine
  have hskip : ∀ b ∈ u, bend b ≤ a := by
    intro b hb
    have hbm : b ∈ D := by rw [hD]; exact List.mem_append_left _ hb
    rw [bend_eq (Fine.btF hfD b hbm) (Fine.ge hfD b hbm) (hbD b hbm)]
    have := hub b hb
    omega
  have hgt : ∀ b ∈ R, bend b > a := by
    intro b hb
    have hbF := Fine.btF hfR b hb
    have hbg := Fine.ge hfR b hb
    rw [bend_eq hbF (by omega) (hbR b hb)]
    have hp := q.pos
    cases hR : R with
    | nil => rw [hR] at hb; cases hb
    | cons r0 R' =>
      rw [hR] at hp hb hfR
      obtain ⟨hp1, hp2⟩ := hp
      rcases List.mem_cons.1 hb with rfl | hb
      · exact hp2
      · have := Fine.ge hfR.2.2 b hb
        have := sz_pos hbF
        have := hfR.1
        omega
  obtain ⟨mm, hm1, hm2, hm3, hm4⟩ := cmts_take (to := st) R e 8 hfR he0 hbR hgt
  have hblR : m.bl = R.take mm := by
    rw [hbl, k3, hD, cmts_skip u R 8 hskip (by decide), hm2]
  obtain ⟨told, R2, u2, e2, r2, h1, h2, h3, h4, h5, h6, h7, h8, h9, h10, h11, h12, h13, h14, h15⟩ := rdAll_spec (o := o) (k := 0) (st := st) (al := m.al) hok (by omega) mm R e ⟨{ c with waits := false }, a, 0, []⟩ hfR he0 hbR q.pos hea (by simp only; omega) qc.1 (Int.le_refl _) (by show c.count + 0 ≤ _; omega)
    (fun u' b v hR hu => by rw [hal]; exact ok_iff hfD hbD hD hfR he0 hblR (by rw [hblR]; exact hm3) hR hu)
  rw [← hblR] at h1
  have h3 : r2.got = told.length := by rw [h3]; show 0 + _ = _; omega
  have h9 : told.length ≤ (o.count - c.count - 0).toNat := h9
  have h10 : a ≤ r2.att := h10
  have hread : ({ c with waits := false } : Cl).read m = { tellR 0 { c with waits := false } told with turn := nx c.turn, count := c.count + told.length, dry := if (told.length : Int) > 0 ∨ r2.att > a then 0 else 1, att := [r2.att] } := by
    have k2' : ({ c with waits := false } : Cl).asked.part = 0 := k2
    rw [read_some (c := { c with waits := false }) (o := o) (r := r2) (by show c.ops[c.op.toNat]? = _; rw [q.ops]; exact hoo) (by omega) (by rw [k2', show geti ({ c with waits := false } : Cl).att 0 = a from hga]; exact h1), k2', h2, h3]
    have w1 : IntKind.i64.wrap ((tellR 0 ({ c with waits := false } : Cl) told).count + (told.length : Int)) = c.count + told.length := w_i64 (by show _ ≤ c.count + (told.length : Int); omega) (by show c.count + (told.length : Int) < _; omega)
    have w2 : nx (tellR 0 ({ c with waits := false } : Cl) told).dry = 1 := by show nx c.dry = 1; rw [hdry0]; rfl
    have w3 : geti (tellR 0 ({ c with waits := false } : Cl) told).att 0 = a := hga
    have w4 : seti (tellR 0 ({ c with waits := false } : Cl) told).att 0 r2.att = [r2.att] := by show seti c.att 0 r2.att = _; rw [q.att]; rfl
    rw [w1, w2, w3, w4]
    rfl
  rw [hread]
  have hseen : reads (c.seen ++ told.map (evR { c with waits := false } 0)) = reads c.seen ++ told := by rw [reads_app, reads_evR]
  have hremw : reads (c.seen ++ told.map (evR { c with waits := false } 0)) ++ rem st r2.att R2 = allR st D := by
    rw [hseen, List.append_assoc, h8]; exact q.rds
  have hqw := q.want
  -- nothing at all has come: there is nothing left
  have hnone : m.bl = [] → rem st r2.att R2 = [] ∧ r2.att = a ∧ told = [] := by
    intro hb
    have hr2 : r2 = ⟨{ c with waits := false }, a, 0, []⟩ := by rw [← h1, hb]; rfl
    have hat : r2.att = a := by rw [hr2]
    have htl : told = [] := by
      have : r2.got = 0 := by rw [hr2]
      rw [h3] at this
      exact List.length_eq_zero_iff.1 (by omega)
    refine ⟨?_, hat, htl⟩
    have hrem : rem st r2.att R2 = rem st a R := by rw [htl] at h8; exact h8
    rw [hrem]
    refine rem_nil ?_
    intro b hbm
    rw [hblR] at hb
    have hbd : b ∈ R.drop mm := by
      have := List.take_append_drop mm R
      rw [hb, List.nil_append] at this
      rw [this]; exact hbm
    have hbF := Fine.btF hfR b hbm
    have hbg := Fine.ge hfR b hbm
    have hcut := hl.cut b (by rw [hD]; exact List.mem_append_right _ hbm)
    rcases hm4 with hm4 | hm4
    · exfalso
      subst hm4
      cases R with
      | nil => cases hbm
      | cons x R' => cases hb
    · have := hm4 b hbd
      rw [bend_eq hbF (by omega) (hbR b hbm)] at this
      exact hcut this
  have hsome : m.bl ≠ [] → 1 ≤ mm ∧ R ≠ [] ∧ a < r2.att := by
    intro hb
    rw [hblR] at hb
    have hR : R ≠ [] := by intro hh; rw [hh] at hb; simp at hb
    have hmm : 1 ≤ mm := by
      rcases Nat.eq_zero_or_pos mm with hh | hh
      · rw [hh] at hb; simp at hb
      · exact hh
    exact ⟨hmm, hR, h12 hmm hR (by show c.count + 0 < _; omega)⟩
  have hR2len : R2.length ≤ R.length := by rw [h4, List.length_append]; omega
  refine ⟨rfl, ho, r2.att, R2, ⟨q.ops, q.parts, q.done, q.inc, q.opn, q.joined, q.gen, q.mine, rfl, q.sure, ⟨qlo.1, by omega⟩, ?_, h7, hremw, q.op, ⟨by show 0 ≤ c.count + (told.length : Int); omega, by show c.count + (told.length : Int) ≤ 16; omega⟩, ?_, ?_, ?_, .inl hst0, ?_, ?_, ?_⟩, ?_⟩
  · exact ⟨u ++ u2, e2, by rw [hD, h4, List.append_assoc], h5, h6, h14, fun b hb => by
      rcases List.mem_append.1 hb with hb | hb
      · have := hub b hb; omega
      · exact h15 b hb⟩
  · intro o' ho'
    have ho' : ol[c.op.toNat]? = some o' := ho'
    rw [hoo] at ho'
    cases ho'
    show c.count + (told.length : Int) ≤ _
    omega
  · intro hh
    have hh : c.op = ol.length := hh
    omega
  · show (reads (c.seen ++ told.map (evR { c with waits := false } 0))).length = wantF (allR st D).length (ol.take c.op.toNat) 0 + (c.count + (told.length : Int)).toNat
    rw [hseen, List.length_append, hqw]
    omega
  · show (if (told.length : Int) > 0 ∨ r2.att > a then (0 : Int) else 1) = 0 ∨ (if (told.length : Int) > 0 ∨ r2.att > a then (0 : Int) else 1) = 1
    split
    · exact .inl rfl
    · exact .inr rfl
  · intro hh
    have hh : (if (told.length : Int) > 0 ∨ r2.att > a then (0 : Int) else 1) = 1 := hh
    by_cases hb : m.bl = []
    · exact (hnone hb).1
    · have := (hsome hb).2.2
      rw [if_pos (.inr this)] at hh
      cases hh
  · intro hh
    have hh : c.step = 1 := hh
    omega
  · unfold pot
    show 5 * (ol.length - c.op.toNat) + 2 * R2.length + _ ≤ n
    generalize hc2 : ({ tellR 0 { c with waits := false } told with turn := nx c.turn, count := c.count + told.length, dry := if (told.length : Int) > 0 ∨ r2.att > a then 0 else 1, att := [r2.att] } : Cl) = c2
    have hf2 : finR ol c2 = !(decide (c.step = 0) && decide (c.count + (told.length : Int) < o.count) && decide ((if (told.length : Int) > 0 ∨ r2.att > a then (0 : Int) else 1) < 1)) := by
      rw [← hc2]
      unfold finR
      show (match ol[c.op.toNat]? with | none => false | some o => _) = _
      rw [hoo]
      rfl
    cases hff : finR ol c2 with
    | true =>
      simp only [if_true]
      split <;> omega
    | false =>
      rw [hff] at hf2
      have h3c : (decide (c.step = 0) && decide (c.count + (told.length : Int) < o.count) && decide ((if (told.length : Int) > 0 ∨ r2.att > a then (0 : Int) else 1) < 1)) = true := by
        cases hh : (decide (c.step = 0) && decide (c.count + (told.length : Int) < o.count) && decide ((if (told.length : Int) > 0 ∨ r2.att > a then (0 : Int) else 1) < 1)) with
        | true => rfl
        | false => rw [hh] at hf2; cases hf2
      simp only [Bool.and_eq_true, decide_eq_true_eq] at h3c
      have hbne : m.bl ≠ [] := by
        intro hb
        obtain ⟨_, n2, n3⟩ := hnone hb
        have := h3c.2
        rw [if_neg (by rw [n3, n2]; simp)] at this
        omega
      obtain ⟨g1, g2, _⟩ := hsome hbne
      have hcapR : R2 = R.drop mm := by
        rcases h11 with h11 | h11
        · exfalso
          have h11 : told.length = (o.count - c.count - 0).toNat := h11
          have := h3c.1.2
          omega
        · exact h11
      have hlenR : R2.length + 1 ≤ R.length := by
        rw [hcapR, List.length_drop]
        have : 1 ≤ R.length := by
          cases R with
          | nil => exact absurd rfl g2
          | cons x R' => simp
        omega
      simp only [Bool.false_eq_true, if_false]
      omega
end
end Go.Proofs.Ytajhdjjmhfbhgaa

/- Layer 19's law, plain: a consumer begins. -/
namespace Go.Proofs.Ytajhdjjmhfbhgaa
open Go Go.Pk
structure Pre (ol : List Oc) (c : Cl) : Prop where
  ops : c.ops = ol
  parts : c.parts = 1
  number : c.number = 0
  done : c.done = false
  inc : c.inc = 0
  opn : c.opn = -1
  op : c.op = 0
  count : c.count = 0
  step : c.step = 0
  dry : c.dry = 0
  rd : reads c.seen = []
  len : 0 < ol.length
def AskJ (D : List Bt) (ol : List Oc) (c : Cl) (s : Int) (n : Nat) : Prop := Pre ol c ∧ s = 0 ∧ c.waits = true ∧ c.asked.kind = 11 ∧ c.asked.inc = 0 ∧ c.joined = false ∧ 5 * ol.length + 2 * D.length + 6 ≤ n
def AskO (D : List Bt) (ol : List Oc) (c : Cl) (s : Int) (n : Nat) : Prop := Pre ol c ∧ s = 0 ∧ c.waits = true ∧ c.asked.kind = 14 ∧ c.asked.part = 0 ∧ c.asked.inc = 0 ∧ c.joined = true ∧ c.gen = 1 ∧ c.mine = [0] ∧ c.att = [-1] ∧ c.sure = [0] ∧ 5 * ol.length + 2 * D.length + 5 ≤ n
def Stage (D : List Bt) (st : Int) (ol : List Oc) (c : Cl) (s : Int) (n : Nat) : Prop := AskJ D ol c s n ∨ AskO D ol c s n ∨ Stg D st ol c s n
section
variable {D : List Bt} {st s : Int} {ol : List Oc} {c : Cl} {m : Rp}
theorem pre_poll (hl : Log D st ol) (q : Pre ol c) : ∃ o, c.decide = c.poll o := by
  obtain ⟨o, ho⟩ : ∃ o, ol[0]? = some o := ⟨_, List.getElem?_eq_getElem q.len⟩
  have hk := (op_get hl ho).1
  refine ⟨o, ?_⟩
  unfold Cl.decide
  rw [if_neg (by rw [q.done]; decide), if_neg (by rw [q.opn]; rintro ⟨h, _⟩; omega), q.ops, q.op]
  show (match ol[(0 : Int).toNat]? with | none => _ | some o => c.deed o) = _
  rw [show ol[(0 : Int).toNat]? = some o from ho]
  show c.deed o = _
  unfold Cl.deed
  rw [if_neg (by omega), if_neg (by omega), if_neg (by omega), if_pos hk]
theorem poll_unsettled {o : Oc} (h : (c.settle c.mine).2 = false) : c.poll o = (c.settle c.mine).1 := poll_no h
theorem start_tick (hl : Log D st ol) {cs x : Sl} (p : Pr) (hp : p = ⟨0, x, ol⟩) : ∃ n, n ≤ 800 ∧ 2 ≤ n ∧ Stage D st ol (newC (oneC cs x ol) 0 p).tick 0 n ∧ ((newC (oneC cs x ol) 0 p).tick.waits = true → ∃ to, (newC (oneC cs x ol) 0 p).tick.out = some to) := by
  subst hp
  have hD := hl.len
  have hO := hl.oln
  refine ⟨5 * ol.length + 2 * D.length + 7, by omega, by omega, ?_⟩
  have et : (newC (oneC cs x ol) 0 ⟨0, x, ol⟩).tick = (newC (oneC cs x ol) 0 ⟨0, x, ol⟩).decide := by
    unfold Cl.tick
    rw [if_pos (show (newC (oneC cs x ol) 0 ⟨0, x, ol⟩).waits = false from rfl)]
  rw [et]
  rcases Nat.eq_zero_or_pos ol.length with h0 | h0
  · have hn : ol = [] := List.length_eq_zero_iff.1 h0
    subst hn
    have e : (newC (oneC cs x []) 0 ⟨0, x, []⟩).decide = (newC (oneC cs x []) 0 ⟨0, x, []⟩).finished := rfl
    rw [e]
    exact ⟨.inr (.inr (.inr (.inr (.inr ⟨rfl, rfl, rfl, ⟨allR st D, rfl⟩, rfl⟩)))), fun h => by cases h⟩
  · have q : Pre ol (newC (oneC cs x ol) 0 ⟨0, x, ol⟩) := ⟨rfl, rfl, rfl, rfl, rfl, rfl, rfl, rfl, rfl, rfl, rfl, h0⟩
    obtain ⟨o, ho⟩ := pre_poll hl q
    have e : (newC (oneC cs x ol) 0 ⟨0, x, ol⟩).poll o = (newC (oneC cs x ol) 0 ⟨0, x, ol⟩).ask { zAq with kind := 11 } := by
      have hs : (newC (oneC cs x ol) 0 ⟨0, x, ol⟩).settle (newC (oneC cs x ol) 0 ⟨0, x, ol⟩).mine = ((newC (oneC cs x ol) 0 ⟨0, x, ol⟩).ask { zAq with kind := 11 }, false) := by
        unfold Cl.settle
        rw [if_pos (show (newC (oneC cs x ol) 0 ⟨0, x, ol⟩).joined = false from rfl)]
      rw [poll_unsettled (by rw [hs]), hs]
    rw [ho, e]
    exact ⟨.inl ⟨⟨rfl, rfl, rfl, rfl, rfl, rfl, rfl, rfl, rfl, rfl, rfl, h0⟩, rfl, rfl, rfl, rfl, rfl, by omega⟩, fun _ => ⟨_, rfl⟩⟩
/-- it has its place in its group -/
theorem askJ_handle (hl : Log D st ol) {n : Nat} (h : AskJ D ol c s (n + 1)) (hk : m.kind = 15) (hc : m.corr = c.asked.corr) (hi : m.inc = 0) (he : m.er = 0) (hg : m.gen = 1) (hm : m.mi = [0]) : AskO D ol (c.handle m) s n ∧ OutW (c.handle m) := by
  obtain ⟨q, hs, hw, k1, k2, k3, k4⟩ := h
  rw [handle_eq hw hk hc (by rw [hi, q.inc]) he]
  let d : Cl := { ({ c with waits := false } : Cl).away with joined := true, gen := 1, mine := [0] }
  have e1 : ({ c with waits := false } : Cl).answered m = d := by
    unfold Cl.answered
    rw [if_neg (by show ¬ c.asked.kind = 7; omega), if_neg (by show ¬ c.asked.kind = 8; omega), if_neg (by show ¬ c.asked.kind = 5; omega), if_neg (by show ¬ c.asked.kind = 9; omega), if_neg (by show ¬ c.asked.kind = 13; omega)]
    unfold Cl.placed
    rw [if_pos (show ({ c with waits := false } : Cl).asked.kind = 11 from k1)]
    show ({ ({ c with waits := false } : Cl).away with joined := true, gen := m.gen, mine := ownedBy m.mi c.parts c.number } : Cl) = d
    have hob : ownedBy m.mi c.parts c.number = [0] := by rw [hm, q.parts, q.number]; kernel_rfl
    rw [hg, hob]
  have qd : Pre ol d := ⟨q.ops, q.parts, q.number, q.done, q.inc, q.opn, q.op, rfl, rfl, rfl, q.rd, q.len⟩
  have hatt : d.att = [-1] := by
    show List.replicate c.parts.toNat (-1 : Int) = [-1]
    rw [q.parts]; rfl
  have hsure : d.sure = [0] := by
    show List.replicate c.parts.toNat (0 : Int) = [0]
    rw [q.parts]; rfl
  obtain ⟨o, ho⟩ := pre_poll hl qd
  have e2 : d.poll o = d.ask { zAq with kind := 14, part := 0 } := by
    have hst : d.settle d.mine = (d.ask { zAq with kind := 14, part := 0 }, false) := by
      unfold Cl.settle
      rw [if_neg (show ¬ d.joined = false from fun h => by cases h)]
      have : d.mine.find? (fun k => decide (geti d.att k < 0)) = some 0 := by
        show ([0] : List Int).find? (fun k => decide (geti d.att k < 0)) = some 0
        rw [hatt]; rfl
      rw [this]
    rw [poll_unsettled (by rw [hst]), hst]
  rw [e1, decides_one (d := d) rfl q.done (by rw [ho, e2]; exact .inl rfl), ho, e2]
  exact ⟨⟨⟨q.ops, q.parts, q.number, q.done, q.inc, q.opn, q.op, rfl, rfl, rfl, q.rd, q.len⟩, hs, rfl, rfl, rfl, q.inc, rfl, rfl, rfl, hatt, hsure, by omega⟩, outW_ask _ _⟩
/-- it knows from where on to read -/
theorem askO_handle (hl : Log D st ol) {n : Nat} (h : AskO D ol c s (n + 1)) (ho : c.out = none) (hk : m.kind = 15) (hc : m.corr = c.asked.corr) (hi : m.inc = 0) (he : m.er = 0) (hoff : m.offset = s) : Stg D st ol (c.handle m) s n ∧ OutW (c.handle m) := by
  obtain ⟨q, hs, hw, k1, k2, k3, k4, k5, k6, k7, k8, k9⟩ := h
  subst hs
  rw [handle_eq hw hk hc (by rw [hi, q.inc]) he]
  refine idle_decides2 hl 8 n _ ?_
  have e1 : ({ c with waits := false } : Cl).answered m = ({ c with waits := false, att := [0], sure := [0] } : Cl).tell { zSn with kind := 6, part := 0, offset := 0 } := by
    unfold Cl.answered
    rw [if_neg (by show ¬ c.asked.kind = 7; omega), if_neg (by show ¬ c.asked.kind = 8; omega), if_neg (by show ¬ c.asked.kind = 5; omega), if_neg (by show ¬ c.asked.kind = 9; omega), if_neg (by show ¬ c.asked.kind = 13; omega)]
    unfold Cl.placed
    rw [if_neg (by show ¬ c.asked.kind = 11; omega), if_pos (show ({ c with waits := false } : Cl).asked.kind = 14 from k1)]
    show ({ c with waits := false, att := seti c.att c.asked.part m.offset, sure := seti c.sure c.asked.part m.offset } : Cl).tell { zSn with kind := 6, part := c.asked.part, offset := m.offset } = _
    rw [k2, hoff, k7, k8]
    rfl
  rw [e1]
  have hrd : reads (c.seen ++ [({ ({ zSn with kind := 6, part := 0, offset := 0 } : Sn) with client := c.number, op := c.op } : Sn)]) = [] := by
    rw [reads_app, q.rd]; rfl
  refine ⟨rfl, ho, 0, D, ⟨q.ops, q.parts, q.done, q.inc, q.opn, k4, k5, k6, rfl, rfl, ⟨Int.le_refl _, Int.le_refl _⟩, ⟨[], 0, rfl, hl.fine, Int.le_refl _, Int.le_refl _, by simp⟩, Pos.start hl.fine, ?_, ⟨?_, ?_⟩, ⟨?_, ?_⟩, ?_, ?_, ?_, .inl q.step, .inl q.dry, ?_, ?_⟩, ?_⟩
  · show reads (c.seen ++ _) ++ rem st 0 D = _
    rw [hrd, rem_start hl.fine]; rfl
  · show 0 ≤ c.op; rw [q.op]; exact Int.le_refl _
  · show c.op ≤ _; rw [q.op]; omega
  · show 0 ≤ c.count; rw [q.count]; exact Int.le_refl _
  · show c.count ≤ 16; rw [q.count]; decide
  · intro o ho'
    show c.count ≤ _
    rw [q.count]
    exact (op_get hl ho').2.1
  · intro _; exact q.count
  · show (reads (c.seen ++ _)).length = wantF _ (ol.take c.op.toNat) 0 + c.count.toNat
    rw [hrd, q.op, q.count]; rfl
  · intro h
    have h : c.dry = 1 := h
    rw [q.dry] at h; cases h
  · intro h
    have h : c.step = 1 := h
    rw [q.step] at h; cases h
  · unfold pot
    show 5 * (ol.length - c.op.toNat) + 2 * D.length + _ ≤ n
    rw [q.op]
    have key : ∀ f : Bool, (if f = true then (if (0 : Int) > 0 then 2 else 0) else 4 : Nat) ≤ 4 := by
      intro f
      cases f with
      | true => exact Nat.zero_le _
      | false => exact Nat.le_refl _
    refine Nat.le_trans (Nat.add_le_add_left (key _) _) ?_
    show 5 * (ol.length - 0) + 2 * D.length + 4 ≤ n
    omega
/-- what was to be sent was taken -/
theorem Stage.taken {n : Nat} (h : Stage D st ol c s n) : Stage D st ol { c with out := none } s n := by
  have core : ∀ {a : Int} {R : List Bt}, Core D st ol c a s R → Core D st ol { c with out := none } a s R := fun q => ⟨q.ops, q.parts, q.done, q.inc, q.opn, q.joined, q.gen, q.mine, q.att, q.sure, q.lo, q.suf, q.pos, q.rds, q.op, q.cnt, q.cn2, q.cn3, q.want, q.step, q.dry, q.dr1, q.st1⟩
  have pre : Pre ol c → Pre ol { c with out := none } := fun q => ⟨q.ops, q.parts, q.number, q.done, q.inc, q.opn, q.op, q.count, q.step, q.dry, q.rd, q.len⟩
  rcases h with h | h | h | h | h | h
  · exact .inl ⟨pre h.1, h.2⟩
  · exact .inr (.inl ⟨pre h.1, h.2⟩)
  · obtain ⟨h1, h2, a, R, h3, h4⟩ := h
    exact .inr (.inr (.inl ⟨h1, rfl, a, R, core h3, h4⟩))
  · obtain ⟨h1, a, R, h3, h4⟩ := h
    exact .inr (.inr (.inr (.inl ⟨h1, a, R, core h3, h4⟩)))
  · obtain ⟨h1, a, R, h3, h4⟩ := h
    exact .inr (.inr (.inr (.inr (.inl ⟨h1, a, R, core h3, h4⟩))))
  · exact .inr (.inr (.inr (.inr (.inr ⟨h.1, h.2.1, rfl, h.2.2.2⟩))))
end
end Go.Proofs.Ytajhdjjmhfbhgaa

/- Layer 19's law, plain: the log that was laid. -/
namespace Go.Proofs.Ytajhdjjmhfbhgaa
open Go Go.Pk
def fend : Int → List Bt → Int
  | e, [] => e
  | e, b :: l => fend (e + sz b) l
theorem fine_snoc : ∀ {l : List Bt} {e : Int} {b : Bt}, Fine e l → b.base = fend e l → BtF b → Fine e (l ++ [b])
  | [], e, b, _, h2, h3 => ⟨h2, h3, trivial⟩
  | x :: l, e, b, ⟨h1, h1', h1''⟩, h2, h3 => ⟨h1, h1', fine_snoc h1'' h2 h3⟩
theorem fend_snoc : ∀ (l : List Bt) (e : Int) (b : Bt), fend e (l ++ [b]) = fend e l + sz b
  | [], e, b => rfl
  | x :: l, e, b => fend_snoc l (e + sz x) b
theorem fend_ge : ∀ {l : List Bt} {e : Int}, Fine e l → e ≤ fend e l ∧ ∀ b ∈ l, b.base + sz b ≤ fend e l
  | [], e, _ => ⟨Int.le_refl _, by simp⟩
  | x :: l, e, ⟨h1, h2, h3⟩ => by
    have hs := sz_pos h2
    obtain ⟨k1, k2⟩ := fend_ge h3
    refine ⟨by show e ≤ fend (e + sz x) l; omega, fun b hb => ?_⟩
    show _ ≤ fend (e + sz x) l
    rcases List.mem_cons.1 hb with rfl | hb
    · omega
    · exact k2 b hb
theorem fend_le : ∀ {l : List Bt} {e : Int}, Fine e l → fend e l ≤ e + 16 * l.length
  | [], e, _ => by show e ≤ e + 16 * ((0 : Nat) : Int); omega
  | x :: l, e, ⟨h1, h2, h3⟩ => by
    have hs := sz_pos h2
    have := fend_le h3
    show fend (e + sz x) l ≤ _
    rw [List.length_cons]
    omega
theorem fine_at : ∀ (m : List Bt) (e : Int) (b : Bt), Fine e (m ++ [b]) → b.base = fend e m
  | [], e, b, ⟨h, _⟩ => h
  | x :: m, e, b, ⟨_, _, h⟩ => fine_at m _ b h
theorem lend_fend {l : List Bt} (hf : Fine 0 l) (hn : l.length ≤ 10000) : lend l = fend 0 l := by
  rcases List.eq_nil_or_concat l with h | ⟨m, b, h⟩
  · rw [h]; rfl
  · rw [h] at hf hn ⊢
    rw [List.concat_eq_append] at hf hn ⊢
    rw [lend_last (b := b) (by simp), fend_snoc]
    have hb : b ∈ m ++ [b] := by simp
    have h1 := Fine.btF hf b hb
    have h2 := (fend_ge hf).2 b hb
    have h3 := fend_le hf
    have h4 := Fine.ge hf b hb
    rw [bend_eq h1 h4 (by omega)]
    rw [fine_at m 0 b hf]
theorem btF_of {d : Bt} {vs : Sl} {ss : List Sl} {e1 e2 : Int} (h : chk { d with base := 0, ep := 0 } = 0) (hp : 0 ≤ d.pid) (h1 : vs.len = d.bs.length) (h2 : ss.length = d.bs.length) : BtF { d with base := e1, ep := e2, vs := vs, ss := ss } := by
  have hs := chk_small h
  unfold chk at h
  split at h
  · cases h
  split at h
  · cases h
  rename_i hb1 hb7
  unfold bad7 at hb7
  simp only at hb7
  have h7 : ¬ (match d.control with | true => d.bs.length > 0 ∨ d.txn = false ∨ d.pid = 0 ∨ d.seq ≠ 0 | false => d.bs.length = 0 ∨ d.commit = true) := fun hh => hb7 (.inl hh)
  have h8 : ¬ (d.pid = 0 ∧ (d.txn = true ∨ d.pe > 0 ∨ d.seq > 0)) := fun hh => hb7 (.inr hh)
  refine ⟨h1, h2, fun hc => ?_, fun hc => ?_, fun ht hp0 => ?_, hp, hs.1, hs.2⟩
  · have hc : d.control = true := hc
    rw [hc] at h7
    simp only at h7
    refine ⟨?_, ?_⟩
    · show d.bs = []
      exact List.length_eq_zero_iff.1 (by omega)
    · show d.txn = true
      cases ht : d.txn with
      | true => rfl
      | false => exact absurd (.inr (.inl ht)) h7
  · have hc : d.control = false := hc
    rw [hc] at h7
    simp only at h7
    show 1 ≤ d.bs.length
    omega
  · exact h8 ⟨hp0, .inl ht⟩
/-- a leader alone, behind so many batches that were offered -/
structure LogI (r : Rr) (k : Nat) : Prop where
  leads : r.leads = true
  fine : Fine 0 r.dl
  len : r.dl.length ≤ k
  high : r.high = fend 0 r.dl
theorem LogI.ok {r : Rr} {k : Nat} (h : LogI r k) : RrOk r := fun d hd => (Fine.btF h.fine d hd).ss
theorem cut_of {D : List Bt} {e : Int} {y : Bt} (hf : Fine e D) (hy : y ∈ D) : ∀ b ∈ D, b.base + sz b > y.base → y.base ≤ b.base := by
  intro b hb hgt
  rcases Int.lt_or_le b.base y.base with h | h
  · exfalso
    obtain ⟨p, q, h1⟩ := List.append_of_mem hb
    obtain ⟨p2, q2, h2⟩ := List.append_of_mem hy
    obtain ⟨mid, m1, m2⟩ := split_le hf h1 h2 h
    rw [h1, m2] at hf
    obtain ⟨_, e', _, hf2, _⟩ := Fine.app hf
    obtain ⟨k1, k2, k3⟩ := hf2
    have := Fine.ge k3 y (by simp)
    omega
  · exact h
theorem log_of {r : Rr} {k : Nat} {ol : List Oc} {first : Int} {any : Bool} (h : LogI r k) (hk : k ≤ 200) (hu : US (tabl r.dl r.high) first any) (ho : ∀ o ∈ ol, o.kind = 4 ∧ 0 ≤ o.count ∧ o.count ≤ 16) (hol : ol.length ≤ 64) : Log r.dl (if any then first else r.high) ol := by
  have hle := fend_le h.fine
  have hl := h.len
  refine ⟨h.fine, by omega, fun b hb => ?_, ?_, ho, hol⟩
  · have := (fend_ge h.fine).2 b hb
    omega
  · cases any with
    | false =>
      intro b hb hgt
      have hgt : b.base + sz b > r.high := hgt
      have := (fend_ge h.fine).2 b hb
      rw [h.high] at hgt
      omega
    | true =>
      obtain ⟨h0, ⟨y, hy, hyo⟩, _⟩ := hu.2 rfl
      rw [kn_opn2] at hyo
      have : ∃ z ∈ tabl r.dl r.high, first = z.base := by
        rcases fold_open (pid := y.pid) (tabl r.dl r.high) (-1) with h1 | h1 | ⟨z, hz, h1⟩
        · have h1 : opn y.pid (tabl r.dl r.high) = -1 := h1; omega
        · have h1 : opn y.pid (tabl r.dl r.high) = -1 := h1; omega
        · exact ⟨z, hz, hyo.symm.trans h1⟩
      obtain ⟨z, hz, he⟩ := this
      have hzD : z ∈ r.dl := (List.mem_filter.1 hz).1
      intro b hb hgt
      have hgt : b.base + sz b > first := hgt
      show first ≤ b.base
      rw [he] at hgt ⊢
      exact cut_of h.fine hzD b hb hgt
section
variable {W w : World} {l : List Res} {K : Value → World → Prop} {g : Nat} {r r' : Rr} {d : Bt} {k : Nat}
/-- a batch more was offered -/
theorem laid_inv (h : LogI r k) (hk : k ≤ 1000) (hp : 0 ≤ d.pid) (hl : Laid r r' d) (hs : Sat W w (RrL g r' l)) : LogI r' (k + 1) := by
  rcases hl with rfl | ⟨ls, vs, ss, hss, hc, rfl⟩
  · exact ⟨h.leads, h.fine, by have := h.len; omega, h.high⟩
  · have hlen := h.len
    have hlend := lend_fend h.fine (by omega)
    have hvl : vs.len = d.bs.length := by
      have h1 := (sat_own.1 hs.tail).tail
      have hm : (VsR vs ss d.bs) ∈ (r.dl ++ [({ d with base := lend r.dl, ep := r.ep, vs := vs, ss := ss } : Bt)]).map elBv.own := by
        rw [List.map_append]
        exact List.mem_append_right _ (by simp [elBv])
      obtain ⟨l', h2⟩ := sat_mem hm h1
      have h3 := (sat_vs.1 h2).slLen.1
      simp at h3
      omega
    have hbt : BtF ({ d with base := lend r.dl, ep := r.ep, vs := vs, ss := ss } : Bt) := btF_of hc hp hvl hss
    have hf2 : Fine 0 (r.dl ++ [({ d with base := lend r.dl, ep := r.ep, vs := vs, ss := ss } : Bt)]) := fine_snoc h.fine hlend hbt
    have hl2 : lend (r.dl ++ [({ d with base := lend r.dl, ep := r.ep, vs := vs, ss := ss } : Bt)]) = fend 0 (r.dl ++ [({ d with base := lend r.dl, ep := r.ep, vs := vs, ss := ss } : Bt)]) := lend_fend hf2 (by rw [List.length_append, List.length_singleton]; omega)
    refine ⟨h.leads, hf2, by rw [List.length_append, List.length_singleton]; omega, ?_⟩
    show (if lend (r.dl ++ [_]) > r.high then lend (r.dl ++ [_]) else r.high) = fend 0 (r.dl ++ [_])
    rw [hl2, h.high, if_pos]
    rw [fend_snoc]
    have := sz_pos hbt
    omega
end
end Go.Proofs.Ytajhdjjmhfbhgaa

/- Layer 19: the law ClientReads: the loop's steps. -/
namespace Go.Proofs.Ytajhdjjmhfbhgaa
open Go Go.Pk
theorem US_uniq {tl : List Bt} {f f' h : Int} {a a' : Bool} (h1 : US tl f a) (h2 : US tl f' a') : (if a then f else h) = (if a' then f' else h) := by
  cases a with
  | false =>
    cases a' with
    | false => rfl
    | true =>
      obtain ⟨k0, ⟨b, hb, hbo⟩, _⟩ := h2.2 rfl
      have := h1.1 rfl b hb
      omega
  | true =>
    obtain ⟨k0, ⟨b, hb, hbo⟩, k3⟩ := h1.2 rfl
    cases a' with
    | false =>
      have := h2.1 rfl b hb
      omega
    | true =>
      obtain ⟨j0, ⟨c, hc, hco⟩, j3⟩ := h2.2 rfl
      have := k3 c hc (by omega)
      have := j3 b hb (by omega)
      show f = f'
      omega
section
variable {D : List Bt} {st s : Int} {ol : List Oc} {c : Cl} {m : Rp}
theorem stage_succ {n : Nat} (h : Stage D st ol c s n) : Over D st ol c ∨ ∃ n', n = n' + 1 := by
  have pos : 1 ≤ n → ∃ n', n = n' + 1 := fun h => ⟨n - 1, by omega⟩
  rcases h with h | h | h | h | h | h
  · exact .inr (pos (by have := h.2.2.2.2.2.2; omega))
  · exact .inr (pos (by obtain ⟨_, _, _, _, _, _, _, _, _, _, _, h⟩ := h; omega))
  · exact .inr (pos h.pos)
  · exact .inr (pos (by obtain ⟨_, _, _, _, _, _, _, _, _, _, h⟩ := h; omega))
  · exact .inr (pos (by obtain ⟨_, _, _, _, _, _, _, _, _, _, _, _, h⟩ := h; omega))
  · exact .inl h
theorem stage_tick (hl : Log D st ol) {n : Nat} (h : Stage D st ol c s (n + 1)) (hw : c.waits = false) (hd : c.done = false) : Stage D st ol c.tick s n ∧ OutW c.tick := by
  have e : c.tick = c.decide := by unfold Cl.tick; rw [if_pos hw]
  rw [e]
  rcases h with h | h | h | h | h | h
  · have := h.2.2.1; rw [hw] at this; cases this
  · have := h.2.2.1; rw [hw] at this; cases this
  · exact ⟨.inr (.inr (idle_decide hl n h)), decide_W hw⟩
  · have := h.1; rw [hw] at this; cases this
  · have := h.1; rw [hw] at this; cases this
  · have := h.1; rw [hd] at this; cases this
theorem stage_kind {n : Nat} (h : Stage D st ol c s n) (hw : c.waits = true) : (c.asked.kind = 11 ∨ c.asked.kind = 14 ∨ c.asked.kind = 6 ∨ (c.asked.kind = 12 ∧ c.asked.gen = 1 ∧ c.asked.offset ≥ s)) ∧ c.asked.inc = 0 ∧ c.done = false := by
  rcases h with h | h | h | h | h | h
  · exact ⟨.inl h.2.2.2.1, h.2.2.2.2.1, h.1.done⟩
  · exact ⟨.inr (.inl h.2.2.2.1), h.2.2.2.2.2.1, h.1.done⟩
  · have := h.1; rw [hw] at this; cases this
  · obtain ⟨_, a, R, q, k1, k2, k3, k4, _⟩ := h
    exact ⟨.inr (.inr (.inl k1)), k4, q.done⟩
  · obtain ⟨_, a, R, q, k1, k2, k3, k4, k5, k6, _⟩ := h
    exact ⟨.inr (.inr (.inr ⟨k1, k4, by omega⟩)), k5, q.done⟩
  · have := h.2.1; rw [hw] at this; cases this
theorem stage_handle (hl : Log D st ol) {n : Nat} {s' : Int} (h : Stage D st ol c s (n + 1)) (hw : c.waits = true) (ho : c.out = none) (hk : m.kind = 15) (hc : m.corr = c.asked.corr) (hi : m.inc = c.asked.inc) (he : m.er = 0)
    (h11 : c.asked.kind = 11 → m.gen = 1 ∧ m.mi = [0] ∧ s' = s) (h14 : c.asked.kind = 14 → m.offset = s ∧ s' = s) (h12 : c.asked.kind = 12 → s' = c.asked.offset)
    (h6 : c.asked.kind = 6 → s' = s ∧ m.bl = cmts st c.asked.offset D 8 ∧ m.al = if m.bl = [] then [] else aborts (tabl D (lend D)) (firstB m.bl) (lend m.bl)) : Stage D st ol (c.handle m) s' n ∧ OutW (c.handle m) := by
  have hi0 : m.inc = 0 := by rw [hi]; exact (stage_kind h hw).2.1
  rcases h with h | h | h | h | h | h
  · obtain ⟨g1, g2, rfl⟩ := h11 h.2.2.2.1
    have := askJ_handle hl h hk hc hi0 he g1 g2
    exact ⟨.inr (.inl this.1), this.2⟩
  · obtain ⟨g1, rfl⟩ := h14 h.2.2.2.1
    have := askO_handle (st := st) hl h ho hk hc hi0 he g1
    exact ⟨.inr (.inr this.1), this.2⟩
  · have := h.1; rw [hw] at this; cases this
  · have hkk : c.asked.kind = 6 := by obtain ⟨_, a, R, q, k1, _⟩ := h; exact k1
    obtain ⟨rfl, g1, g2⟩ := h6 hkk
    have := askR_handle hl h ho hk hc hi0 he g1 g2
    exact ⟨.inr (.inr this.1), this.2⟩
  · have hkk : c.asked.kind = 12 := by obtain ⟨_, a, R, q, k1, _⟩ := h; exact k1
    rw [h12 hkk]
    have := askC_handle hl h ho hk hc hi0 he
    exact ⟨.inr (.inr this.1), this.2⟩
  · have := h.2.1; rw [hw] at this; cases this
theorem over_tick (h : Over D st ol c) : c.tick = c := by
  unfold Cl.tick
  rw [if_pos h.2.1]
  unfold Cl.decide
  rw [if_pos h.1]
theorem reads_take {l : List Sn} {i : Nat} (hi : i < l.length) : reads (l.take (i + 1)) = reads (l.take i) ++ (if l[i].kind = 5 then [⟨l[i].offset, l[i].value⟩] else []) := by
  rw [List.take_add_one, List.getElem?_eq_getElem hi, reads_app]
  congr 1
  show reads [l[i]] = _
  unfold reads
  rw [List.filter_cons]
  by_cases h : l[i].kind = 5
  · rw [if_pos (by simpa using h), if_pos h]; rfl
  · rw [if_neg (by simpa using h), if_neg h]; rfl
end
section
variable {W w5 : World} {l : List Res} {K : Value → World → Prop} {g2 b : Nat} {cf : Cf} {hs : Hs} {c : Cl} {D : List Bt} {st : Int} {ol : List Oc} {sr : Sl}
/-- the trace is held against the records that were committed -/
theorem reads_end (h : Sat W w5 (Blk g2 (hcells cf 0 b hs) T_penstocklaw19_hold :: ClM b c :: l)) (hsr : Rd W l sr 2 (elR.flat (allR st D))) (hdn : hs.dn = true) (ho : Over D st ol c) (hn : c.seen.length ≤ 1099511627776) (hK : ∀ w', Sat W w' (Blk g2 (hcells cf 0 b hs) T_penstocklaw19_hold :: ClM b c :: l) → K (.bool true) w') :
    nilCk (some (⟨g2, 0, none⟩ : Addr)) fun (a69 : Addr) =>
          RunQ .ptr P (Instr.loadAt T_p_client_Client (.pointer (some (a69.add 5)))) w5 fun (p70 : Option Addr) =>
          CallP P F_client_Client_Trace [(.pointer p70)] w5 fun (v71 : Value) w72 =>
          TyP .sl v71 fun (s73 : Sl) =>
          LoopP (T := Int × Int × Unit) (some (0, (0, ()))) w72 fun next74 t75 w76 =>
          ifB (decide (t75.snd.fst < (↑s73.len : Int)))
          (RunQ .addr P (Instr.indexAt T_sl_api_Seen s73.v (.int .i64 t75.snd.fst)) w76 fun (a77 : Addr) =>
          RunQ .val P (Instr.loadAt T_api_Seen (.pointer (some a77))) w76 fun (v78 : Value) =>
          RunK .addr P (Instr.alloc T_api_Seen true (.tuple #[])) w76 fun (a79 : Addr) w80 =>
          StoreP P T_api_Seen (.pointer (some a79)) v78 w80 fun w81 =>
          RunQ (.int .i64) P (Instr.loadAt T_int (.pointer (some (Go.Addr.add a79 0)))) w81 fun (n82 : Int) =>
          ifB (n82 != 5)
          (next74 (some (t75.fst, ((IntKind.i64.wrap (t75.snd.fst + 1)), ()))) w81)
          (ifB (decide (t75.fst ≥ (↑sr.len : Int)))
          (K (.bool false) w81.drew)
          (RunQ (.int .i64) P (Instr.loadAt T_int (.pointer (some (Go.Addr.add a79 4)))) w81.drew fun (n83 : Int) =>
          RunQ .addr P (Instr.indexAt T_sl_penstocklaw19_record sr.v (.int .i64 t75.fst)) w81.drew fun (a84 : Addr) =>
          RunQ (.int .i64) P (Instr.loadAt T_int (.pointer (some (Go.Addr.add a84 0)))) w81.drew fun (n85 : Int) =>
          ifB (n83 != n85)
          (K (.bool false) w81.drew)
          (RunQ .str P (Instr.loadAt T_string (.pointer (some (Go.Addr.add a79 5)))) w81.drew fun (t86 : ByteArray) =>
          RunQ .addr P (Instr.indexAt T_sl_penstocklaw19_record sr.v (.int .i64 t75.fst)) w81.drew fun (a87 : Addr) =>
          RunQ .str P (Instr.loadAt T_string (.pointer (some (Go.Addr.add a87 1)))) w81.drew fun (t88 : ByteArray) =>
          ifB (!ByteArray.toList t86 == ByteArray.toList t88)
          (K (.bool false) w81.drew)
          (next74 (some ((IntKind.i64.wrap (t75.fst + 1)), ((IntKind.i64.wrap (t75.snd.fst + 1)), ()))) w81.drew)))))
          (nilCk (some (⟨g2, 0, none⟩ : Addr)) fun (a89 : Addr) =>
          RunQ .bool P (Instr.loadAt T_bool (.pointer (some (a89.add 69)))) w76 fun (b90 : Bool) =>
          ifB b90
          (K (.bool (t75.fst == ((wantF (allR st D).length ol 0 : Nat) : Int))) w76)
          (K (.bool false) w76)) := by
  obtain ⟨o1, o2, o3, ⟨rest, o4⟩, o5⟩ := ho
  refine ldX h 5 (k := .ptr) (x := some ⟨b, 0, none⟩) ?_
  refine trace_ok h.swap hn fun s73 w6 h1 => tyI (k := .sl) ?_
  have hsl : s73.len = c.seen.length := RdC.elen (E := elS) h1.rdc (by decide)
  have hrl : sr.len = (allR st D).length := RdC.elen (E := elR) (hsr w6 h1.tail.tail.tail) (by decide)
  have h2 : Sat W w6 (SlR T_api_Seen 7 s73 (elS.flat c.seen) :: Blk g2 (hcells cf 0 b hs) T_penstocklaw19_hold :: ClM b c :: l) := h1.sel 3 [0, 2, 1]
  refine ⟨fun z w' => ∃ i : Nat, z.2.1 = i ∧ i ≤ c.seen.length ∧ z.1 = ((reads (c.seen.take i)).length : Nat) ∧ Sat W w' (SlR T_api_Seen 7 s73 (elS.flat c.seen) :: Blk g2 (hcells cf 0 b hs) T_penstocklaw19_hold :: ClM b c :: l), fun z _ => c.seen.length - z.2.1.toNat, ⟨0, rfl, Nat.zero_le _, rfl, h2⟩, ?_⟩
  rintro ⟨k, i', u⟩ w7 ⟨i, hi, hil, hk, h3⟩
  simp only at hi hk ⊢
  subst hi
  subst hk
  refine ifB_dec (fun hlt => ?_) fun hge => ?_
  · have hi1 : i < c.seen.length := by omega
    have hw1 : IntKind.i64.wrap ((i : Int) + 1) = ((i + 1 : Nat) : Int) := w_i64 (by omega) (by omega)
    have hrt := reads_take hi1
    have hpre : ∃ q, reads (c.seen.take (i + 1)) ++ q = allR st D := by
      refine ⟨reads (c.seen.drop (i + 1)) ++ rest, ?_⟩
      rw [← List.append_assoc, ← reads_app, List.take_append_drop]; exact o4
    have hlen : (reads (c.seen.take (i + 1))).length ≤ (allR st D).length := by
      obtain ⟨q, hq⟩ := hpre
      rw [← hq, List.length_append]; omega
    have hle1 : (reads (c.seen.take i)).length ≤ c.seen.length := by
      unfold reads
      rw [List.length_map]
      exact Nat.le_trans (List.length_filter_le _ _) (by rw [List.length_take]; omega)
    refine ixEl (E := elS) et_seen rfl h3.rdc (by omega) (x := c.seen[i]) (by rw [Int.toNat_natCast, List.getElem?_eq_getElem hi1]) (by omega) fun A hA => ?_
    refine ldAggC (cs := c.seen[i].cells) hA ?_
    generalize c.seen[i] = e at hrt
    refine newAgg (z := ({ zSn with kind := 0 } : Sn).cells) h3 (Sn.ones e) fun mb w8 h4 => ?_
    have h4 : Sat W w8 (Blk mb e.cells T_api_Seen :: SlR T_api_Seen 7 s73 (elS.flat c.seen) :: Blk g2 (hcells cf 0 b hs) T_penstocklaw19_hold :: ClM b c :: l) := h4
    refine ldX h4 0 (x := e.kind) ?_
    refine ifB_bne (fun hne => ?_) fun he => ?_
    · rw [hw1]
      rw [if_neg hne, List.append_nil] at hrt
      exact ⟨⟨i + 1, rfl, by omega, by rw [hrt], h4.tail⟩, by omega⟩
    · rw [if_pos he] at hrt
      have hat : (allR st D)[(reads (c.seen.take i)).length]? = some ⟨e.offset, e.value⟩ := by
        obtain ⟨q, hq⟩ := hpre
        rw [← hq, hrt, List.append_assoc, List.getElem?_append_right (Nat.le_refl _), Nat.sub_self]; rfl
      have hlt2 : (reads (c.seen.take i)).length < (allR st D).length := (List.getElem?_eq_some_iff.1 hat).1
      refine ifB_dec (fun hge2 => absurd hge2 (by omega)) fun _ => ?_
      have h5 := h4.drew
      refine ldX h5 4 (x := e.offset) ?_
      refine ixEl (E := elR) et_recs rfl (hsr _ h5.tail.tail.tail.tail) (by omega) (by rw [Int.toNat_natCast]; exact hat) (by omega) fun A2 hA2 => ?_
      refine ldC (x := e.offset) (hA2 0 _ rfl) ?_
      refine ifB_bne (fun hne => absurd rfl hne) fun _ => ?_
      refine ldX h5 5 (k := .str) (x := e.value) ?_
      refine ixEl (E := elR) et_recs rfl (hsr _ h5.tail.tail.tail.tail) (by omega) (by rw [Int.toNat_natCast]; exact hat) (by omega) fun A2 hA2 => ?_
      refine ldC (k := .str) (x := e.value) (hA2 1 _ rfl) ?_
      rw [show (!ByteArray.toList e.value == ByteArray.toList e.value) = false from by simp]
      simp only [ifB_false]
      have hw2 : IntKind.i64.wrap (((reads (c.seen.take i)).length : Int) + 1) = (((reads (c.seen.take i)).length + 1 : Nat) : Int) := w_i64 (by omega) (by omega)
      rw [hw1, hw2]
      exact ⟨⟨i + 1, rfl, by omega, by rw [hrt, List.length_append, List.length_singleton], h5.tail⟩, by omega⟩
  · have e : i = c.seen.length := by omega
    subst e
    rw [List.take_of_length_le (Nat.le_refl _)]
    refine ldX h3.swap 69 (k := .bool) (x := hs.dn) ?_
    rw [hdn]
    simp only [ifB_true]
    rw [o5, show (((wantF (allR st D).length ol 0 : Nat) : Int) == ((wantF (allR st D).length ol 0 : Nat) : Int)) = true from by simp]
    exact hK w7 h3.tail
end
end Go.Proofs.Ytajhdjjmhfbhgaa

/- Layer 19: a client's step, looked at. -/
namespace Go.Proofs.Ytajhdjjmhfbhgaa
open Go Go.Pk
section
variable {W w : World} {l : List Res} {K : Value → World → Prop} {b g : Nat} {c : Cl} {cf : Cf} {n : Int} {p : Pr} {hs : Hs} {N N' : Nat}
/-- what is sent is looked at, and then the trace -/
theorem tells2_ok {A B J : World → Prop} {s vs : Sl} {c2 : Cl} (h : Sat W w (SlR T_api_Msg 59 s (outL c2 vs) :: Blk g (hcells cf n b hs) T_penstocklaw19_hold :: ClM b { c2 with out := none } :: l)) (hr : CfRd W l cf) (hp : cf.cl[n.toNat]? = some p) (hn : 0 ≤ n ∧ n < 4) (hf : (fxOf cf n p).ok)
    (hq : Fit (fxOf cf n p) hs c) (q2 : Inv (fxOf cf n p) c.seen N' c2) (hN : N' ≤ 1000000000000)
    (hK : ∀ hs' w', Fit (fxOf cf n p) hs' { c2 with out := none } → Inv (fxOf cf n p) { c2 with out := none }.seen N' { c2 with out := none } → Sat W w' (Blk g (hcells cf n b hs') T_penstocklaw19_hold :: ClM b { c2 with out := none } :: SlR T_api_Msg 59 s (outL c2 vs) :: l) → J w') :
    CallP P F_law19_hold_sends [(.pointer (some ⟨g, 0, none⟩)), s.v] w fun (v43 : Value) w44 =>
     TyP .bool v43 fun (b45 : Bool) =>
      ifB (!b45)
       (A w44)
       (CallP P F_law19_hold_looks [(.pointer (some ⟨g, 0, none⟩))] w44 fun (v46 : Value) w47 =>
        TyP .bool v46 fun (b48 : Bool) =>
         ifB (!b48) (B w47) (J w47)) := by
  have hnd : 1 ≤ cf.nodes ∧ cf.nodes ≤ 5 := hf.nodes
  obtain ⟨evs, he⟩ := q2.pre
  have x := q2.fx
  obtain ⟨o1, o2, o, o3, o4⟩ := q2.po
  have hlk : lookS n p.ol.length (hs.op, hs.dn) evs = some (o, c2.done) := by
    have e1 : c2.number = n := x.2.1
    have e2 : c2.ops = p.ol := x.2.2.2.2.2
    rw [e1, e2, he, lookS_app] at o3
    have e3 : lookS n p.ol.length (0, false) c.seen = some (hs.op, hs.dn) := hq.lk
    rw [e3] at o3
    exact o3
  have fin : ∀ (hs1 : Hs) w', hs1.sn = hs.sn → hs1.op = hs.op → hs1.dn = hs.dn → Sat W w' (Blk g (hcells cf n b hs1) T_penstocklaw19_hold :: ClM b { c2 with out := none } :: SlR T_api_Msg 59 s (outL c2 vs) :: l) →
      CallP P F_law19_hold_looks [(.pointer (some ⟨g, 0, none⟩))] w' fun (v46 : Value) w47 => TyP .bool v46 fun (b48 : Bool) => ifB (!b48) (B w47) (J w47) := by
    intro hs1 w' a1 a2 a3 h'
    refine looks_ok (c := { c2 with out := none }) (sn := c.seen) (evs := evs) (o := o) h' hr.cons hp hn x.2.1 x.2.2.2.2.2 o1 he (a1.trans hq.sn) (by show c2.seen.length ≤ _; have := q2.seen; omega) (by rw [a2, a3]; exact hlk) fun w2 h2 => tyI (k := .bool) ?_
    simp only [Bool.not_true, ifB_false]
    refine hK _ w2 ⟨rfl, ?_, rfl, rfl⟩ ?_ h2
    · show lookS n p.ol.length (0, false) c2.seen = some (o, c2.done)
      have e1 : c2.number = n := x.2.1
      have e2 : c2.ops = p.ol := x.2.2.2.2.2
      rw [← e1, ← e2]
      exact o3
    · have q3 := q2.taken
      exact ⟨q3.fx, q3.tg, q3.pl, q3.po, q3.nx, q3.wt, q3.vl, q3.ot, q3.seen, q3.added, [], by simp⟩
  cases ho : c2.out with
  | none =>
    have h0 : s.len = 0 := by
      have e := h.slLen.1
      rw [show outL c2 vs = [] from by unfold outL; rw [ho]] at e
      simp at e; omega
    refine sends_none h.tail h0 (tyI (k := .bool) ?_)
    simp only [Bool.not_true, ifB_false]
    exact fin hs w rfl rfl rfl (h.sel 3 [1, 2, 0])
  | some t =>
    have e : outL c2 vs = ({ c2.asked with to := t } : Aq).cells vs := by unfold outL; rw [ho]
    rw [e] at h fin
    obtain ⟨z1, z2⟩ := q2.snt ho
    have hdn : hs.dn = false := by
      cases hb : hs.dn with
      | false => rfl
      | true =>
        rw [hb] at hlk
        cases evs with
        | nil =>
          have : (hs.op, true) = (o, c2.done) := Option.some.inj hlk
          have := (Prod.mk.inj this).2
          rw [z2] at this; cases this
        | cons ev evs =>
          have := (lookS_cons hlk).1
          cases this
    refine sends_one (c := { c2 with out := none }) h.swap hr hp hn hnd.2 (by omega) hdn ⟨z1.kind, z1.frm, z1.to, z1.tx, z1.member, z1.inc, z1.group⟩ fun w2 h2 => tyI (k := .bool) ?_
    simp only [Bool.not_true, ifB_false]
    exact fin { hs with last := { c2.asked with to := t }, vs := vs, any := true } w2 rfl rfl rfl (h2.sel 3 [0, 2, 1])
end
section
variable {W w : World} {l : List Res} {K : Value → World → Prop} {b : Nat} {c : Cl} {f : Fx} {sn : List Sn} {N : Nat} {m : Rp} {cs : List Value}
/-- an answer -/
theorem hstep2 (h : Sat W w (ClM b c :: l)) (hm : RpC cs m) (hrd : RpRd W l m) (hml : m.bl.length ≤ 1000000000 ∧ vtot m.bl ≤ 1000000 ∧ m.al.length ≤ 1000000000) (hvv : ∀ d ∈ m.bl, ∀ v ∈ d.bs, v.length ≤ 140737488355328) (hf : f.ok) (q : Inv f sn N c) (ho : c.out = none) (hN : N ≤ 1000000000)
    (hK : ∀ s vs w', vs.len = (c.handle m).asked.vals.length → Inv f sn (N + vtot m.bl + 24) (c.handle m) → Sat W w' (SlR T_api_Msg 59 s (outL (c.handle m) vs) :: ClM b { c.handle m with out := none } :: l) → K s.v w') : CallP P F_client_Client_Handle [.pointer (some ⟨b, 0, none⟩), .agg cs.toArray] w K := by
  have qh : Inv f sn (N + vtot m.bl + 24) (c.handle m) := q.handle (m := m) hf ho hvv (by omega)
  refine handle_ok h hm hrd (q.good hf (by omega) ho) q.waits ⟨hml.1, by omega, hml.2.2⟩ ?_ (fun w8 ho8 h8 => ?_) fun pp w8 h8 => ?_
  · intro hwt j hj c1 hc1 hw1 hd1
    have qf := Inv.decides hf j _ _ (q.first (m := m) hf hwt ho hvv (by omega))
    rw [← hc1] at qf
    exact qf.good hf (by omega) (qf.noOut hw1)
  · obtain ⟨p, h9⟩ := sat_cl.1 h8
    have hvl : p.vl.map Prod.snd = (c.handle m).asked.vals := by
      have := (Sat.up (L := ClL b (c.handle m) p l) h9 3 : Sat W w8 (Pure (p.vl.map Prod.snd = (c.handle m).asked.vals) :: _))
      exact (sat_pure.1 this).1
    have hvs : p.vs.len = p.vl.length := (own_len (Sat.up (L := ClL b (c.handle m) p l) h9 4) (by decide)).1
    have e1 : ({ c.handle m with out := none } : Cl) = c.handle m := by rw [← ho8]
    have e2 : outL (c.handle m) p.vs = [] := by unfold outL; rw [ho8]
    refine hK ⟨none, 0, 0⟩ p.vs w8 (by rw [hvs, ← hvl, List.length_map]) qh ?_
    rw [e1, e2]
    exact Sat.nilSlr h8 T_api_Msg 59
  · have h9 : Sat W w8 (SlR T_api_Msg 59 pp.out (outL (c.handle m) pp.vs) :: ClL b { c.handle m with out := none } { pp with out := ⟨none, 0, 0⟩ } l) := h8
    have h9c : Sat W w8 (ClL b { c.handle m with out := none } { pp with out := ⟨none, 0, 0⟩ } l) := h9.tail
    have hvl : pp.vl.map Prod.snd = (c.handle m).asked.vals := by
      have := (Sat.up (L := ClL b { c.handle m with out := none } { pp with out := ⟨none, 0, 0⟩ } l) h9c 3 : Sat W w8 (Pure (pp.vl.map Prod.snd = (c.handle m).asked.vals) :: _))
      exact (sat_pure.1 this).1
    have hvs : pp.vs.len = pp.vl.length := (own_len (Sat.up (L := ClL b { c.handle m with out := none } { pp with out := ⟨none, 0, 0⟩ } l) h9c 4) (by decide)).1
    have h10 : Sat W w8 (ClM b { c.handle m with out := none } :: SlR T_api_Msg 59 pp.out (outL (c.handle m) pp.vs) :: l) := sat_cl.2 ⟨_, h9.sel 14 [1, 2, 3, 4, 5, 6, 7, 8, 9, 10, 11, 12, 13, 0]⟩
    exact hK pp.out pp.vs w8 (by rw [hvs, ← hvl, List.length_map]) qh h10.swap
end
end Go.Proofs.Ytajhdjjmhfbhgaa

/- Layer 19: the law ClientReads. -/
namespace Go.Proofs.Ytajhdjjmhfbhgaa
open Go Go.Pk
def opP (n : UInt8) : Oc := ⟨4, 0, 0, ((n.toNat : Int)).tmod 17, ⟨#[]⟩⟩
def opsP (l : List UInt8) : List Oc := (l.take 60).map opP
theorem opsP_len (l : List UInt8) : (opsP l).length ≤ 60 := by simp [opsP]; omega
theorem opsP_push {l : List UInt8} {i : Nat} (h : i < l.length) (h60 : i < 60) : opsP (l.take (i + 1)) = opsP (l.take i) ++ [opP l[i]] := by
  unfold opsP
  rw [List.take_take, List.take_take, Nat.min_eq_right (by omega), Nat.min_eq_right (by omega), List.take_add_one, List.getElem?_eq_getElem h, List.map_append]
  rfl
theorem opsP_full {l : List UInt8} {i : Nat} (h60 : 60 ≤ i) : opsP (l.take (i + 1)) = opsP (l.take i) := by
  unfold opsP
  rw [List.take_take, List.take_take, Nat.min_eq_left (by omega), Nat.min_eq_left (by omega)]
theorem tmod17 (n : UInt8) : 0 ≤ ((n.toNat : Int)).tmod 17 ∧ ((n.toNat : Int)).tmod 17 < 17 := ⟨Int.tmod_nonneg _ (by omega), Int.tmod_lt_of_pos _ (by decide)⟩
theorem opsP_in {l : List UInt8} : ∀ o ∈ opsP l, o.kind = 4 ∧ 0 ≤ o.count ∧ o.count ≤ 16 := by
  intro o ho
  unfold opsP at ho
  obtain ⟨n, _, rfl⟩ := List.mem_map.1 ho
  have := tmod17 n
  exact ⟨rfl, this.1, by show ((n.toNat : Int)).tmod 17 ≤ 16; omega⟩
theorem reads_ok {l : List UInt8} {cs x : Sl} : cfBad (oneC cs x (opsP l)) = false := by
  have h1 : (opsP l).any (opBad 1) = false := by
    rw [List.any_eq_false]
    intro o ho
    unfold opsP at ho
    obtain ⟨n, _, rfl⟩ := List.mem_map.1 ho
    have := tmod17 n
    have : opBad 1 (opP n) = false := by
      have h0 : (⟨#[]⟩ : ByteArray).size = 0 := rfl
      unfold opBad opP
      simp [h0]
      omega
    rw [this]; decide
  have h2 : prBad 1 ⟨0, x, opsP l⟩ = false := by
    unfold prBad
    rw [h1]
    have := opsP_len l
    simp; omega
  unfold cfBad
  show (topBad (oneC cs x _) || ([⟨0, x, opsP l⟩] : List Pr).any (prBad 1)) = false
  rw [List.any_cons, List.any_nil, h2]
  rfl
theorem vtot_le : ∀ {l : List Bt} {e : Int}, Fine e l → vtot l ≤ 16 * l.length
  | [], _, _ => Nat.zero_le _
  | b :: l, e, ⟨_, h2, h3⟩ => by
    rw [vtot_cons, List.length_cons]
    have := h2.n16
    have := vtot_le h3
    omega
theorem vtot_app : ∀ (l m : List Bt), vtot (l ++ m) = vtot l + vtot m
  | [], m => by show vtot m = 0 + vtot m; omega
  | b :: l, m => by
    show vtot (b :: (l ++ m)) = _
    rw [vtot_cons, vtot_cons, vtot_app l m]; omega
theorem cmts_vtot {to from_ : Int} : ∀ (dl : List Bt) (k : Nat), vtot (cmts to from_ dl k) ≤ vtot dl
  | [], _ => Nat.le_refl _
  | b :: dl, k => by
    unfold cmts
    rw [vtot_cons]
    split
    · exact Nat.zero_le _
    · split
      · rw [vtot_app]
        have := cmts_vtot (to := to) (from_ := from_) dl (k - 1)
        split
        · have : vtot [b] = b.bs.length + 0 := rfl
          omega
        · have : vtot [] = 0 := rfl
          omega
      · have := cmts_vtot (to := to) (from_ := from_) dl k
        omega
theorem allR_len (st : Int) : ∀ l : List Bt, (allR st l).length ≤ vtot l
  | [] => Nat.le_refl _
  | b :: l => by
    show ((if okL st b l then recB b else []) ++ allR st l).length ≤ b.bs.length + vtot l
    rw [List.length_append]
    have := allR_len st l
    split
    · rw [recB_len]; omega
    · show 0 + _ ≤ _; omega
section
variable {W w : World} {l : List Res} {K : Value → World → Prop} {x0 x1 : Sl} {xl : List Bt} {nl : List UInt8}
set_option maxRecDepth 20000 in
theorem law_reads (h : Sat W w l) (hx : Rd W l x0 9 (elB.flat xl)) (hv : ∀ d ∈ xl, VRd W l d ∧ 0 ≤ d.pid) (hy : Rd W l x1 1 (nl.map vB)) (hnl : nl.length ≤ 140737488355328) (hK : ∀ w', Sat W w' l → K (.bool true) w') :
    CallP P F_law19_ClientReads [x0.v, x1.v] w K := by
  apply c_law19_ClientReads
  unfold S_law19_ClientReads
  have hl0 : x0.len = xl.length := RdC.elen (E := elB) (hx w h) (by decide)
  have hl1 : x1.len = nl.length := by
    have := (hy w h).1
    simp only [List.length_map, Nat.mul_one] at this
    exact this.symm
  refine ⟨fun _ w' => xl.length ≤ 200 ∧ Sat W w' l, ?_, ?_⟩
  · rintro _ w1 ⟨hx200, h1⟩
    refine new_ok14 h1 fun g w2 h2 => tyI (k := .ptr) (x := some ⟨g, 0, none⟩) ?_
    refine bsB h2 (cs := [.int .i64 0]) (e := T_int) (fun w => by kernel_rfl) fun gi w3 h3 => ?_
    refine lead_ok14 (x := ⟨some ⟨gi, 0, none⟩, 1, 1⟩) h3.swap (fun w h => rdBlk h (n := 1) (sz := 1) rfl) fun isr w4 h4 => tyI (k := .int .i64) ?_
    have h4 : Sat W w4 (RrL g ⟨⟨none, 0, 0⟩, [], 1, true, 0, 0, isr⟩ l) := h4.cut 3
    refine ⟨fun z w' => ∃ (i : Nat) (r : Rr), z.1 = i ∧ i ≤ xl.length ∧ LogI r i ∧ Sat W w' (RrL g r l), fun z _ => xl.length - z.1.toNat, ⟨0, ⟨⟨none, 0, 0⟩, [], 1, true, 0, 0, isr⟩, rfl, Nat.zero_le _, ⟨rfl, trivial, Nat.le_refl _, rfl⟩, h4⟩, ?_⟩
    rintro ⟨i', u⟩ w5 ⟨i, r, hi, hil, hr, h5⟩
    simp only at hi ⊢
    subst hi
    refine ifB_dec (fun hlt => ?_) fun hge => ?_
    · have hi1 : i < xl.length := by omega
      have hrlen := hr.len
      refine ixEl (E := elB) et_bts rfl (hx w5 h5.tail.tail.tail) (by omega) (x := xl[i]) (by rw [Int.toNat_natCast, List.getElem?_eq_getElem hi1]) (by omega) fun A hA => ?_
      refine ldAggC (cs := xl[i].cells) hA ?_
      obtain ⟨hvd, hpd⟩ := hv xl[i] (List.getElem_mem hi1)
      generalize xl[i] = d at hvd hpd
      refine newAgg (z := zBt) h5 (elB.one d) fun mb w6 h6 => ?_
      have h6 : Sat W w6 (Blk mb d.cells T_api_Batch :: RrL g r l) := h6
      refine ldAggB h6 (by kernel_rfl) ?_
      have h7 : Sat W w6 (RrL g r (Blk mb d.cells T_api_Batch :: l)) := h6.sel 4 [1, 2, 3, 0]
      refine produce_ok14 h7 hr.leads hvd.cons (by omega) fun x e r' w7 hlaid h8 => ?_
      refine ⟨(x, e, ()), rfl, ?_⟩
      have h9 : Sat W w7 (RrL g r' l) := h8.cut 3
      rw [w_i64 (by omega) (by omega)]
      exact ⟨⟨i + 1, r', rfl, by omega, laid_inv hr (by omega) hpd hlaid h9, h9⟩, by omega⟩
    · have ei : i = xl.length := by omega
      subst ei
      have hrlen := hr.len
      have h6 := h5.drew
      let S : World → Prop := fun w => ∃ L, Sat W w (Blk g r.cells T_penstockref14_Replica :: L)
      refine ⟨S, ⟨_, h6⟩, ?_⟩
      refine hldX (S := S) (fun w h => h) 2 (k := .sl) (x := r.ls) ?_
      refine stable_ok14 h6 (RrL.rd (g := g) (r := r) (l := l)) (by omega) fun first any w6 hus h7 => tyI (k := .int .i64) ⟨⟨_, h7⟩, ?_⟩
      have hlog : ∀ q : List UInt8, Log r.dl (if any then first else r.high) (opsP q) := fun q => log_of hr hx200 hus opsP_in (by have := opsP_len q; omega)
      have hus2 : ∀ f a, US (tabl r.dl r.high) f a → (if a then f else r.high) = (if any then first else r.high) := fun f a h => US_uniq h hus
      generalize (if any = true then first else r.high) = st at hlog hus2 ⊢
      have hok := hr.ok
      refine lcommitted_ok (dl := r.dl) (l := RrL g r l) h7 (Rd.cons (RrL.rd (g := g) (r := r) (l := l))) (fun d hd => (VRd.ownR hd hok).cons) (by omega) (by have := vtot_le hr.fine; omega) fun sr w7 h8 => tyI (k := .sl) ⟨⟨_, h8.swap⟩, ?_⟩
      have hsrl : sr.len = (allR st r.dl).length := RdC.elen (E := elR) h8.rdc (by decide)
      have hcap := h8.slLen.2
      refine ⟨fun z w' => ∃ i : Nat, z.2.2.1 = i ∧ i ≤ nl.length ∧ z.2.1 = ((wantF (allR st r.dl).length (opsP (nl.take i)) 0 : Nat) : Int) ∧ Sat W w' (SlR T_api_Op 5 z.1 (elO.flat (opsP (nl.take i))) :: SlR T_penstocklaw19_record 2 sr (elR.flat (allR st r.dl)) :: RrL g r l), fun z _ => nl.length - z.2.2.1.toNat,
        ⟨0, rfl, Nat.zero_le _, rfl, Sat.nilSlr h8 T_api_Op 5⟩, ?_⟩
      rintro ⟨s, want, i', u⟩ w8 ⟨i, hi, hil, hwant, h9⟩
      simp only at hi hwant h9 ⊢
      subst hi
      subst hwant
      have hol := opsP_len (nl.take i)
      have hsl : s.len = (opsP (nl.take i)).length := RdC.elen (E := elO) h9.rdc (by decide)
      have hN : (allR st r.dl).length ≤ 1000000 := by have := allR_len st r.dl; have := vtot_le hr.fine; omega
      refine ifB_dec (fun hlt => ?_) fun hge => ?_
      · have hi1 : i < nl.length := by omega
        have hw1 : IntKind.i64.wrap ((i : Int) + 1) = ((i + 1 : Nat) : Int) := w_i64 (by omega) (by omega)
        have h17 := tmod17 nl[i]
        refine ixld et_bytes (hy w8 h9.tail.tail.tail.tail.tail) (by omega) (k := .int .u8) (x := (nl[i].toNat : Int)) (by rw [Int.toNat_natCast, List.getElem?_map, List.getElem?_eq_getElem hi1]; rfl) ?_
        refine ifB_dec (fun h60 => ?_) fun h60 => ?_
        · have hwm : IntKind.i64.wrap (((nl[i].toNat : Int)).tmod 17) = ((nl[i].toNat : Int)).tmod 17 := w_i64 (by omega) (by omega)
          rw [hwm]
          refine bsB h9 (cs := (opP nl[i]).cells) (e := T_api_Op) (fun w => by kernel_rfl) fun g3 w9 h10 => ?_
          refine pushB et_ops (by decide) h10.swap rfl (Oc.ones _) (by omega) (by omega) fun s' w10 h11 => ?_
          have hle := wantF_le (N := (allR st r.dl).length) (opsP (nl.take i)) 0 (Nat.zero_le _)
          have hwa : IntKind.i64.wrap (((wantF (allR st r.dl).length (opsP (nl.take i)) 0 : Nat) : Int) + ((nl[i].toNat : Int)).tmod 17) = ((wantF (allR st r.dl).length (opsP (nl.take i)) 0 : Nat) : Int) + ((nl[i].toNat : Int)).tmod 17 := w_i64 (by omega) (by omega)
          rw [hw1, hwa]
          have e := opsP_push hi1 (by omega : i < 60)
          refine ⟨⟨i + 1, rfl, by omega, ?_, ?_⟩, by omega⟩
          · rw [e, wantF_snoc, hsrl]
            show _ = ((min (_ + (((nl[i].toNat : Int)).tmod 17).toNat) _ : Nat) : Int)
            split <;> omega
          · have e2 : elO.flat (opsP (nl.take i)) ++ (opP nl[i]).cells = elO.flat (opsP (nl.take (i + 1))) := by rw [e, flat_app, flat_one]; rfl
            rw [e2] at h11
            exact h11.cut 1
        · rw [hw1]
          refine ⟨⟨i + 1, rfl, by omega, ?_, ?_⟩, by omega⟩
          · rw [opsP_full (by omega)]
          · rw [opsP_full (by omega)]; exact h9
      · have ei : i = nl.length := by omega
        subst ei
        rw [List.take_of_length_le (Nat.le_refl _)] at h9 hsl hol ⊢
        refine one_ok (x := s) h9 fun cs w9 h10 => tyI (k := .val) ?_
        have hbadno : ∀ cs, cfBad (oneC cs s (opsP nl)) = false := fun cs => reads_ok
        have hlog := hlog nl
        generalize opsP nl = ol at *
        refine begin_ok (cf := oneC cs s ol) h10 (oneC_rd Rd.own) (by decide) (fun w10 h11 hbad => ?_) fun p nn b g2 w10 hnb hnn hpp h11 => tyI (k := .ptr) (x := some ⟨g2, 0, none⟩) ?_
        · exfalso
          rcases hbad with hbad | hbad
          · rw [hbadno cs] at hbad; cases hbad
          · cases hbad
        have hnn : nn = 0 := by rw [hnn]; rfl
        subst hnn
        have hpe : p = ⟨0, s, ol⟩ := by
          have : some (⟨0, s, ol⟩ : Pr) = some p := hpp
          exact (Option.some.inj this).symm
        have hf := fxOf_ok hnb hpp
        obtain ⟨n0, hn0, hn2, hst0, hout0⟩ := start_tick hlog (cs := cs) (x := s) p hpe
        have qn := newC_inv hf
        have hon : (newC (oneC cs s ol) 0 p).out = none := rfl
        have hfit : Fit (fxOf (oneC cs s ol) 0 p) hs0 (newC (oneC cs s ol) 0 p) := ⟨rfl, rfl, rfl, rfl⟩
        have hsn : (newC (oneC cs s ol) 0 p).seen = [] := rfl
        simp only [Option.isNone_some, ifB_false]
        have hcfr : ∀ {L : List Res}, CfRd W (SlR T_api_Program 2 cs [.int .i64 0, s.v] :: SlR T_api_Op 5 s (elO.flat ol) :: L) (oneC cs s ol) := fun {L} => oneC_rd Rd.own
        generalize newC (oneC cs s ol) 0 p = c0 at h11 hst0 hout0 qn hon hfit hsn
        generalize oneC cs s ol = cf at *
        refine ldX h11 5 (k := .ptr) (x := some ⟨b, 0, none⟩) ?_
        refine tstep h11.swap hf qn hon (by omega) fun s60 vs w11 _ q12 h12 => tyI (k := .sl) ?_
        have hout0 : OutW c0.tick := hout0
        have q12 : Inv (fxOf cf 0 p) c0.seen 1 c0.tick := by rw [hsn]; exact q12
        generalize c0.tick = c1 at *
        have hsuf : ∀ {w : World}, Sat W w (SlR T_api_Program 2 cs [.int .i64 0, s.v] :: SlR T_api_Op 5 s (elO.flat ol) :: SlR T_penstocklaw19_record 2 sr (elR.flat (allR st r.dl)) :: RrL g r l) → Sat W w l := fun h => h.tail.tail.tail.tail.tail.tail
        have hnodes : 1 ≤ cf.nodes ∧ cf.nodes ≤ 5 := hf.nodes
        have hrsr : Rd W (SlR T_api_Program 2 cs [.int .i64 0, s.v] :: SlR T_api_Op 5 s (elO.flat ol) :: SlR T_penstocklaw19_record 2 sr (elR.flat (allR st r.dl)) :: RrL g r l) sr 2 (elR.flat (allR st r.dl)) := fun w h => h.tail.tail.rdc
        have hvt : vtot r.dl ≤ 3200 := by have := vtot_le hr.fine; omega
        refine ⟨fun z w' => ∃ (i : Nat) (d1 d2 : Cl) (vs : Sl) (hs : Hs) (n : Nat), z.2.2.1 = i ∧ i ≤ 4000 ∧ Fit (fxOf cf 0 p) hs d1 ∧ Inv (fxOf cf 0 p) d1.seen (1 + 4000 * i) d2 ∧ OutW d2 ∧ Stage r.dl st ol { d2 with out := none } z.2.1 n ∧
            (hs.dn = true → Over r.dl st ol { d2 with out := none }) ∧ (i + n ≤ 900 ∨ (Over r.dl st ol { d2 with out := none } ∧ i ≤ 901) ∨ hs.dn = true) ∧
            Sat W w' (SlR T_api_Msg 59 z.1 (outL d2 vs) :: Blk g2 (hcells cf 0 b hs) T_penstocklaw19_hold :: ClM b { d2 with out := none } :: SlR T_api_Program 2 cs [.int .i64 0, s.v] :: SlR T_api_Op 5 s (elO.flat ol) :: SlR T_penstocklaw19_record 2 sr (elR.flat (allR st r.dl)) :: RrL g r l), fun z _ => 4000 - z.2.2.1.toNat, ?_, ?_⟩
        · exact ⟨0, c0, c1, vs, hs0, n0, rfl, Nat.zero_le _, hfit, q12, hout0, hst0.taken, (fun h => by cases h), .inl (by omega), h12.sel 3 [0, 2, 1]⟩
        · rintro ⟨lm, sure, i', u⟩ w12 ⟨i, d1, d2, vs, hs, n, hi, hi4, hfit, qd, houtw, hstg, hov, hbound, h13⟩
          simp only at hi hstg h13 ⊢
          subst hi
          have hlen2 : ({ d2 with out := none } : Cl).seen.length ≤ 1099511627776 := by show d2.seen.length ≤ _; have := qd.seen; omega
          have exit : hs.dn = true → _ := fun hdn => reads_end (K := K) (w5 := w12) h13.tail hrsr hdn (hov hdn) hlen2 (fun w' h' => hK w' (hsuf h'.tail.tail))
          refine ⟨fun _ w' => hs.dn = false ∧ i < 4000 ∧ w' = w12, ?_, ?_⟩
          · rintro _ w13 ⟨hdn, hi40, rfl⟩
            have hwi : IntKind.i64.wrap ((i : Int) + 1) = ((i + 1 : Nat) : Int) := w_i64 (by omega) (by omega)
            refine ⟨fun _ w' => ∃ hs', Fit (fxOf cf 0 p) hs' { d2 with out := none } ∧ Inv (fxOf cf 0 p) { d2 with out := none }.seen (1 + 4000 * i) { d2 with out := none } ∧ Sat W w' (Blk g2 (hcells cf 0 b hs') T_penstocklaw19_hold :: ClM b { d2 with out := none } :: SlR T_api_Msg 59 lm (outL d2 vs) :: SlR T_api_Program 2 cs [.int .i64 0, s.v] :: SlR T_api_Op 5 s (elO.flat ol) :: SlR T_penstocklaw19_record 2 sr (elR.flat (allR st r.dl)) :: RrL g r l), ?_, ?_⟩
            · rintro _ w14 ⟨hs', hfit', qd', h14⟩
              have hbound2 : i + n ≤ 900 ∨ (Over r.dl st ol { d2 with out := none } ∧ i ≤ 901) := by
                rcases hbound with hb | hb | hb
                · exact .inl hb
                · exact .inr hb
                · rw [hdn] at hb; cases hb
              have hdn' : hs'.dn = d2.done := hfit'.dn
              have hwo : d2.waits = false → d2.out = none := qd.noOut
              generalize hd : ({ d2 with out := none } : Cl) = d at *
              have hdw : d.waits = d2.waits := by rw [← hd]
              have hdd : d.done = d2.done := by rw [← hd]
              have hda : d.asked = d2.asked := by rw [← hd]
              have hdo : d.out = none := by rw [← hd]
              cases hw : d2.waits with
              | false =>
                have ho : d2.out = none := hwo hw
                have hlm : lm.len = 0 := by
                  have e := (h14.tail.tail).slLen.1
                  rw [show outL d2 vs = [] from by unfold outL; rw [ho]] at e
                  simp at e; omega
                refine ifB_beq (fun _ => ?_) fun hne => absurd (by omega) hne
                refine ldX h14 5 (k := .ptr) (x := some ⟨b, 0, none⟩) ?_
                refine tstep (N := 1 + 4000 * i) h14.swap hf qd' hdo (by omega) fun s126 vs2 w15 _ q15 h15 => tyI (k := .sl) ?_
                rw [hwi]
                have h16 : Sat W w15 (SlR T_api_Msg 59 s126 (outL d.tick vs2) :: Blk g2 (hcells cf 0 b hs') T_penstocklaw19_hold :: ClM b { d.tick with out := none } :: SlR T_api_Program 2 cs [.int .i64 0, s.v] :: SlR T_api_Op 5 s (elO.flat ol) :: SlR T_penstocklaw19_record 2 sr (elR.flat (allR st r.dl)) :: RrL g r l) := h15.sel 4 [0, 2, 1]
                rcases stage_succ hstg with hovr | ⟨n', rfl⟩
                · have et := over_tick hovr
                  have hovr2 : Over r.dl st ol { d.tick with out := none } := by rw [et]; exact ⟨hovr.1, hovr.2.1, rfl, hovr.2.2.2⟩
                  exact ⟨⟨i + 1, d, d.tick, vs2, hs', n, rfl, by omega, hfit', q15.mono (by omega), outW_no (by rw [et]; exact hovr.2.1), .inr (.inr (.inr (.inr (.inr hovr2)))), fun _ => hovr2, .inr (.inr (by rw [hdn', ← hdd]; exact hovr.1)), h16⟩, by omega⟩
                · cases hdone : d2.done with
                  | true =>
                    have hov3 : Over r.dl st ol d := by
                      rcases hstg with h | h | h | h | h | h
                      · have := h.1.done; rw [hdd, hdone] at this; cases this
                      · have := h.1.done; rw [hdd, hdone] at this; cases this
                      · obtain ⟨_, _, a, R, q, _⟩ := h
                        have := q.done; rw [hdd, hdone] at this; cases this
                      · have := h.1; rw [hdw, hw] at this; cases this
                      · have := h.1; rw [hdw, hw] at this; cases this
                      · exact h
                    have et := over_tick hov3
                    have hovr2 : Over r.dl st ol { d.tick with out := none } := by rw [et]; exact ⟨hov3.1, hov3.2.1, rfl, hov3.2.2.2⟩
                    exact ⟨⟨i + 1, d, d.tick, vs2, hs', n' + 1, rfl, by omega, hfit', q15.mono (by omega), outW_no (by rw [et]; exact hov3.2.1), .inr (.inr (.inr (.inr (.inr hovr2)))), fun _ => hovr2, .inr (.inr (by rw [hdn']; exact hdone)), h16⟩, by omega⟩
                  | false =>
                    have hst := stage_tick hlog hstg (by rw [hdw]; exact hw) (by rw [hdd]; exact hdone)
                    refine ⟨⟨i + 1, d, d.tick, vs2, hs', n', rfl, by omega, hfit', q15.mono (by omega), hst.2, hst.1.taken, (fun h => by rw [hdn', hdone] at h; cases h), ?_, h16⟩, by omega⟩
                    rcases hbound2 with hb | hb
                    · exact .inl (by omega)
                    · have := hb.1.1; rw [hdd, hdone] at this; cases this
              | true =>
                obtain ⟨to, hto⟩ := houtw hw
                have e0 : outL d2 vs = ({ d.asked with to := to } : Aq).cells vs := by unfold outL; rw [hto, hda]
                rw [e0] at h14
                have hlm : lm.len = 1 := by
                  have e : 59 = lm.len * 59 := (h14.tail.tail).slLen.1
                  omega
                have hdw1 : d.waits = true := by rw [hdw]; exact hw
                obtain ⟨hkd, hinc0, hdone⟩ := stage_kind hstg hdw1
                obtain ⟨n', rfl⟩ : ∃ n', n = n' + 1 := by
                  rcases stage_succ hstg with h | h
                  · have := h.2.1; rw [hdw1] at this; cases this
                  · exact h
                refine ifB_beq (fun h0 => absurd h0 (by omega)) fun _ => ?_
                have hsr2 : RdC w14 lm 59 (elM.flat [({ d.asked with to := to }, vs)]) := by rw [flat_one]; exact (h14.tail.tail).rdc
                refine ixEl (E := elM) et_msgs rfl hsr2 (i := 0) (x := ({ d.asked with to := to }, vs)) (by decide) rfl (by show 0 < lm.len; omega) fun A hA => ?_
                refine ldAggC (cs := ({ d.asked with to := to } : Aq).cells vs) hA ?_
                have h15 : Sat W w14 (RrL g r (Blk g2 (hcells cf 0 b hs') T_penstocklaw19_hold :: ClM b d :: SlR T_api_Program 2 cs [.int .i64 0, s.v] :: SlR T_api_Op 5 s (elO.flat ol) :: SlR T_penstocklaw19_record 2 sr (elR.flat (allR st r.dl)) :: l)) := h14.sel 9 [6, 7, 8, 0, 1, 3, 4, 5]
                refine serve_ok (a := { d.asked with to := to }) (sure := sure) h15 (by omega) hok hkd fun mc m ex sure' w15 m1 m2 m3 m4 m5 m6 m11 m14 m12 mk6 mno mrd h16 => tup3v ?_
                refine newAgg (z := zAq.cells nsl) (cs := mc) h16 m2 (hl := m1.len) (ht := by rw [m1.len]; kernel_rfl) fun y w16 h17 => ?_
                simp only [Bool.not_true, ifB_false]
                have h18 := h17.drew
                let S2 : World → Prop := fun w => ∃ L, Sat W w (Blk y mc T_api_Msg :: Blk g2 (hcells cf 0 b hs') T_penstocklaw19_hold :: L)
                have h19 : Sat W w16.drew (ClM b d :: Blk y mc T_api_Msg :: Blk g2 (hcells cf 0 b hs') T_penstocklaw19_hold :: ex :: RrL g r (SlR T_api_Program 2 cs [.int .i64 0, s.v] :: SlR T_api_Op 5 s (elO.flat ol) :: SlR T_penstocklaw19_record 2 sr (elR.flat (allR st r.dl)) :: l)) := h18.sel 7 [6, 0, 5, 1, 2, 3, 4]
                refine ⟨S2, ⟨_, h19.sel 3 [1, 2, 0]⟩, ?_⟩
                refine hldX (S := S2) (fun w ⟨L, h⟩ => ⟨_, h.swap⟩) 5 (k := .ptr) (x := some ⟨b, 0, none⟩) ?_
                refine hldAggB (S := S2) (cs := mc) (fun w ⟨L, h⟩ => ⟨_, h⟩) (by rw [m1.len]; kernel_rfl) ?_
                have hblin : ∀ x ∈ m.bl, x ∈ r.dl := by
                  intro x hx
                  by_cases hk6 : d.asked.kind = 6
                  · obtain ⟨_, f, a, _, hbl, _⟩ := mk6 hk6
                    rw [hbl] at hx
                    exact cmts_in _ _ x hx
                  · rw [(mno hk6).1] at hx; cases hx
                have hbllen : m.bl.length ≤ 200 ∧ vtot m.bl ≤ 3200 := by
                  by_cases hk6 : d.asked.kind = 6
                  · obtain ⟨_, f, a, _, hbl, _⟩ := mk6 hk6
                    rw [hbl]
                    exact ⟨Nat.le_trans (cmts_len _ _) (by omega), Nat.le_trans (cmts_vtot _ _) hvt⟩
                  · rw [(mno hk6).1]; exact ⟨Nat.zero_le _, Nat.zero_le _⟩
                have hallen : m.al.length ≤ 1000000 := by
                  by_cases hk6 : d.asked.kind = 6
                  · obtain ⟨_, f, a, _, _, hal⟩ := mk6 hk6
                    rw [hal]
                    split
                    · exact Nat.zero_le _
                    · refine Nat.le_trans (aborts_len _) ?_
                      exact Nat.le_trans (List.length_filter_le _ _) (by omega)
                  · rw [(mno hk6).2]; exact Nat.zero_le _
                refine hstep2 (N := 1 + 4000 * i) h19 m1 (mrd _).cons.cons ⟨by omega, by omega, by omega⟩ (fun x hx v hv2 => by have := (Fine.btF hr.fine x (hblin x hx)).v64 v hv2; omega) hf qd' hdo (by omega) fun s141 vs3 w17 _ q17 h20 => tyI (k := .sl) ?_
                have h20 : Sat W w17 (SlR T_api_Msg 59 s141 (outL (d.handle m) vs3) :: ClM b { d.handle m with out := none } :: Blk y mc T_api_Msg :: Blk g2 (hcells cf 0 b hs') T_penstocklaw19_hold :: ex :: RrL g r (SlR T_api_Program 2 cs [.int .i64 0, s.v] :: SlR T_api_Op 5 s (elO.flat ol) :: SlR T_penstocklaw19_record 2 sr (elR.flat (allR st r.dl)) :: l)) := h20
                refine ⟨⟨_, h20.sel 4 [2, 3, 0, 1]⟩, ?_⟩
                rw [hwi]
                have hst := stage_handle (s' := sure') hlog hstg hdw1 hdo m3 m4 m5 m6 m11 m14 m12 (fun hk6 => by
                  obtain ⟨e1, f, a, hu, hbl, hal⟩ := mk6 hk6
                  rw [hus2 f a hu] at hbl
                  exact ⟨e1, hbl, hal⟩)
                refine ⟨⟨i + 1, d, d.handle m, vs3, hs', n', rfl, by omega, hfit', q17.mono (by omega), hst.2, hst.1.taken, (fun h => by rw [hdn', ← hdd, hdone] at h; cases h), ?_, h20.sel 11 [0, 3, 1, 8, 9, 10, 5, 6, 7]⟩, by omega⟩
                rcases hbound2 with hb | hb
                · exact .inl (by omega)
                · have := hb.1.1; rw [hdone] at this; cases this
            · refine tells2_ok (N' := 1 + 4000 * i) (p := p) h13 hcfr hpp (by omega) hf hfit qd (by omega) fun hs' w14 f1 f2 f3 => ⟨hs', f1, f2, f3⟩
          · refine ifB_dec (fun hlt => ?_) fun hge => ?_
            · refine ldX h13.swap 69 (k := .bool) (x := hs.dn) ?_
              refine ifB_not (ifB_intro (fun hdn => exit hdn) fun hdn => ⟨hdn, by omega, rfl⟩)
            · cases hdn : hs.dn with
              | true => exact exit hdn
              | false =>
                exfalso
                rcases hbound with hb | hb | hb
                · omega
                · have := hb.2; omega
                · rw [hdn] at hb; cases hb
  · refine awake19_ok h fun w1 h1 => tyI (k := .bool) ?_
    simp only [Bool.not_true, ifB_false]
    refine ifB_dec (fun _ => awake19_ok h1 fun w2 h2 => tyI (k := .bool) (hK w2 h2)) fun hle => ⟨by omega, h1⟩
end
end Go.Proofs.Ytajhdjjmhfbhgaa
