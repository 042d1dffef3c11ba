/- Layer 12: entries that come are taken. -/
import Derived.Test.YtfbffgcoopelfaaRfU
namespace Go.Proofs.Ytfbffgcoopelfaa
open Go Go.Pk
theorem Sane.cut {q : Rs} (hs : Sane q) (k : Nat) (e : En) (hk : k + 1 < 2 ^ 40) (he : e.2.length ≤ 140737488355328) : Sane (cutLog q k e) where
  base := hs.base
  len := by show (q.hd.log.take k ++ [e]).length < _; rw [List.length_append, List.length_take]; simp; omega
  id := hs.id
  n := hs.n
  commit := hs.commit
  told := hs.told
  ticks := hs.ticks
  limit := hs.limit
  term := hs.term
  next := hs.next
  mtch := hs.mtch
  small := ⟨hs.small.1, by show (q.hd.log.take k ++ [e]).length < _; rw [List.length_append, List.length_take]; simp; omega, fun x hx => by
    rcases List.mem_append.1 hx with hx | hx
    · exact hs.small.2.2 x (List.mem_of_mem_take hx)
    · simp at hx; subst hx; exact he⟩
  msgs := hs.msgs
  commits := hs.commits
theorem EnRd.drop {W : World} {l : List Res} {s : Sl} {xs : List En} (h : EnRd W l s xs) {lo : Nat} (hlo : lo ≤ s.len) : EnRd W l (subSl s 2 lo s.len) (xs.drop lo) := by
  obtain ⟨es, he, hr, hd⟩ := h
  refine ⟨es.drop lo, by rw [List.map_drop, he], ?_, fun e h => hd e (List.mem_of_mem_drop h)⟩
  intro w hw
  have b := (hr w hw).sub (lo := lo) (hi := s.len) hlo (Nat.le_refl _)
  have hln := (hr w hw).1
  rw [flat_length] at hln
  have hln : es.length * 2 = s.len * 2 := hln
  have e1 : ((elP T_api_Entry).flat es).drop (lo * 2) = (elP T_api_Entry).flat (es.drop lo) := flat_drop (E := elP T_api_Entry) es lo
  have e2 : ((elP T_api_Entry).flat (es.drop lo)).take ((s.len - lo) * 2) = (elP T_api_Entry).flat (es.drop lo) := by
    rw [List.take_of_length_le]
    rw [flat_length, List.length_drop]
    show (es.length - lo) * 2 ≤ _
    omega
  rw [e1, e2] at b
  exact b
section
variable {W w : World} {l : List Res} {K : Value → World → Prop} {b : Nat} {r : Rs} {p : RsP}
theorem sat_all_cons {A : Res} {m : List Res} (h : Sat W w (All (A :: m) :: l)) : Sat W w (A :: All m :: l) := own_split (m := A :: m) (i := 0) rfl h
theorem take2_ok {m : MgC} (h : Sat W w (RaR b r :: l)) (hs : Sane r) (hm : MgRd W l m) (hi : -9223372036854775808 ≤ m.index ∧ m.index < 9223372036854775808) (hsm : EnSm m.ents) (hroom : r.hd.log.length + m.ents.length < 2 ^ 40)
    (hK : ∀ w', Sat W w' (RaR b (r.take m.dat) :: l) → K (.tuple #[]) w') : CallP P F_raft_Raft_take [.pointer (some ⟨b, 0, none⟩), .agg m.cells.toArray] w K := by
  apply c_raft_Raft_take
  unfold S_raft_Raft_take
  refine boxB h fun a0 w1 h1 => ?_
  have h1 : Sat W w1 (Blk a0 m.cells T_api_RMsg :: RaR b r :: l) := h1
  have hlast := last_in hs
  have hbase := hs.base
  have hcm := hs.commit
  have hll : r.last = r.hd.base + r.hd.log.length := rfl
  have hlen : m.es.len = m.ents.length := by
    obtain ⟨es, he, hf, _⟩ := hm.1
    have h5 := (hf w h.tail).1
    rw [flat_length] at h5
    have h6 := congrArg List.length he
    rw [List.length_map] at h6
    have h7 : es.length * 2 = m.es.len * 2 := h5
    omega
  have hcap : m.es.len ≤ m.es.cap := by
    obtain ⟨es, he, hf, _⟩ := hm.1
    exact (hf w h.tail).2.1
  refine ⟨fun _ w' => ∃ m2 : MgC, Sat W w' (RaR b r :: Blk a0 m2.cells T_api_RMsg :: l) ∧ MgRd W l m2 ∧ r.hd.base ≤ m2.index ∧ m2.index < 9223372036854775808 ∧ EnSm m2.ents ∧ r.hd.log.length + m2.ents.length < 2 ^ 40 ∧ r.take m.dat = r.takeAt m2.frm m2.index m2.lterm m2.commit m2.ents, ?_, ?_⟩
  · rintro _ w2 ⟨m2, h2, hm2, hi2, hi3, hsm2, hroom2, htk⟩
    rw [htk] at hK
    have hlen2 : m2.es.len = m2.ents.length := by
      obtain ⟨es, he, hf, _⟩ := hm2.1
      have h5 := (hf w h.tail).1
      rw [flat_length] at h5
      have h6 := congrArg List.length he
      rw [List.length_map] at h6
      have h7 : es.length * 2 = m2.es.len * 2 := h5
      omega
    -- what is refused
    have refuse : ∀ {w3 : World}, ((r.termAt m2.index).2 = false ∨ (r.termAt m2.index).1 ≠ m2.lterm) → Sat W w3 (RaR b r :: Blk a0 m2.cells T_api_RMsg :: l) →
        ∃ S51 : World → Prop, (S51 w3.drew) ∧
         HRun S51 (.int .i64) P (Instr.loadAt T_int (.pointer (some (Go.Addr.add ⟨a0, 0, none⟩ 1)))) fun (n52 : Int) =>
          nilCk (some ⟨b, 0, none⟩) fun (a53 : Addr) =>
           HRun S51 (.int .i64) P (Instr.loadAt T_int (.pointer (some ((a53.add 2).add 0)))) fun (n54 : Int) =>
            HRun S51 (.int .i64) P (Instr.loadAt T_int (.pointer (some (Go.Addr.add ⟨a0, 0, none⟩ 4)))) fun (n55 : Int) =>
             nilCk (some ⟨b, 0, none⟩) fun (a56 : Addr) =>
              HRun S51 (.int .i64) P (Instr.loadAt T_int (.pointer (some (a56.add 10)))) fun (n57 : Int) =>
               CallP P F_raft_Raft_last [(.pointer (some ⟨b, 0, none⟩))] w3.drew fun (v58 : Value) w59 =>
                TyP (.int .i64) v58 fun (n60 : Int) =>
                (S51 w59) ∧
                CallP P F_raft_Raft_send [(.pointer (some ⟨b, 0, none⟩)), (.agg #[(.int .i64 6), (.int .i64 0), (.int .i64 n52), (.int .i64 n54), (.int .i64 (if n57 > if IntKind.i64.wrap (n55 - 1) < n60 then IntKind.i64.wrap (n55 - 1) else n60 then n57 else if IntKind.i64.wrap (n55 - 1) < n60 then IntKind.i64.wrap (n55 - 1) else n60)), (.int .i64 0), (.int .i64 0), (.bool true), (.slice none 0 0), (.slice none 0 0)])] w59 fun (v61 : Value) w62 =>
                TupP [] v61 fun (t63 : Unit) =>
                (S51 w62) ∧
                K (.tuple #[]) w62 := by
      intro w3 hbad h3
      obtain ⟨p, h4⟩ := sat_ra.1 h3.drew
      refine ⟨SMg W b a0 m2 r.hd r.commit, ⟨_, p, ⟨_, h4⟩, rfl, rfl, _, h4.up 9⟩, ?_⟩
      refine ldM 1 (x := m2.frm) ?_
      refine ldR 2 (x := r.hd.term) ?_ (fun r' p' e1 _ => by rw [← e1]; rfl)
      refine ldM 4 (x := m2.index) ?_
      refine ldR 10 (x := r.commit) ?_ (fun r' p' _ e2 => by rw [← e2]; rfl)
      refine lastL_ok h4 hs fun w4 h5 => tyI ⟨⟨_, p, ⟨_, h5⟩, rfl, rfl, _, h5.up 9⟩, ?_⟩
      rw [w_i64 (n := m2.index - 1) (by omega) (by omega)]
      have e0 : (if r.commit > (if m2.index - 1 < r.last then m2.index - 1 else r.last) then r.commit else if m2.index - 1 < r.last then m2.index - 1 else r.last) = max (min r.last (m2.index - 1)) r.commit := by
        split <;> split at * <;> omega
      rw [e0]
      have h6 : Sat W w4 (RaL b r p (elM.own (mgNil 6 m2.frm r.hd.term (max (min r.last (m2.index - 1)) r.commit) true) :: Blk a0 m2.cells T_api_RMsg :: l)) := (own_mgNil h5).sel 10 [1, 2, 3, 4, 5, 6, 7, 8, 9, 0]
      refine sendL_ok (m := mgNil 6 m2.frm r.hd.term (max (min r.last (m2.index - 1)) r.commit) true) h6 hs.msgs fun s' w5 h7 => tupU rfl ⟨⟨r.send (mgNil 6 m2.frm r.hd.term (max (min r.last (m2.index - 1)) r.commit) true).dat, _, ⟨_, h7⟩, rfl, rfl, _, h7.up 9⟩, ?_⟩
      have e : r.takeAt m2.frm m2.index m2.lterm m2.commit m2.ents = r.send (mgNil 6 m2.frm r.hd.term (max (min r.last (m2.index - 1)) r.commit) true).dat := by
        unfold Rs.takeAt
        rw [if_pos hbad]
        rfl
      rw [e] at hK
      exact hK w5 (sat_ra.2 ⟨_, h7.cut 9⟩)
    refine ⟨fun _ w' => ((r.termAt m2.index).2 = true ∧ (r.termAt m2.index).1 = m2.lterm) ∧ Sat W w' (RaR b r :: Blk a0 m2.cells T_api_RMsg :: l), ?_, ?_⟩
    · rintro _ w3 ⟨⟨ok1, ok2⟩, h3⟩
      obtain ⟨q1, q2⟩ := termAt_range ok1 (Nat.zero_le _)
      refine ldX (k := .sl) h3.tail 8 (x := m2.es) ?_
      refine entries_ok h3 hm2.1.cons.cons hsm2 fun s w4 h4 => tyI (k := .sl) ?_
      obtain ⟨es, he, h5⟩ := sat_pr.1 h4
      have hes := (own_len h5 (by decide : 0 < 2)).1
      have hel : es.length = m2.ents.length := by rw [← he]; simp
      have h6 : Sat W w4 (RaR b r :: SlR T_api_Entry 2 s ((elP T_api_Entry).flat es) :: All (es.map (elP T_api_Entry).own) :: Blk a0 m2.cells T_api_RMsg :: l) := (sat_own.1 h5).sel 4 [2, 0, 1, 3]
      have tk : r.takeAt m2.frm m2.index m2.lterm m2.commit m2.ents = (if r.stops m2.ents (m2.index + 1) = true then r.takeEnts m2.ents (m2.index + 1) else
          let r1 := r.takeEnts m2.ents (m2.index + 1)
          let got := m2.index + m2.ents.length
          let r2 := { r1 with commit := max r1.commit (min m2.commit got) }
          r2.send { Rs.mg0 with kind := 6, to := m2.frm, term := r2.hd.term, index := got }) := by
        unfold Rs.takeAt
        rw [if_neg (by rintro (h | h); rw [ok1] at h; cases h; exact h ok2)]
      rw [tk] at hK
      refine ⟨fun z w' => ∃ (i : Nat) (q : Rs), z.1 = i ∧ i ≤ es.length ∧ q.takeEnts ((es.drop i).map EnC.dat) (m2.index + 1 + i) = r.takeEnts m2.ents (m2.index + 1) ∧ q.stops ((es.drop i).map EnC.dat) (m2.index + 1 + i) = r.stops m2.ents (m2.index + 1) ∧ Sane q ∧ q.hd.base = r.hd.base ∧ m2.index + i ≤ q.last ∧ q.hd.log.length + (es.length - i) < 2 ^ 40 ∧
          Sat W w' (RaR b q :: SlR T_api_Entry 2 s ((elP T_api_Entry).flat es) :: All ((es.drop i).map (elP T_api_Entry).own) :: Blk a0 m2.cells T_api_RMsg :: l),
        fun z _ => es.length - z.1.toNat, ⟨0, r, rfl, Nat.zero_le _, by rw [List.drop_zero, he]; simp, by rw [List.drop_zero, he]; simp, hs, rfl, by omega, by omega, h6⟩, ?_⟩
      rintro ⟨i', u⟩ w5 ⟨i, q, hi', hil, g1, g2, hq, hqb, hqi, hql, h7⟩
      simp only at hi' ⊢
      subst hi'
      have hqlast : q.last = q.hd.base + q.hd.log.length := rfl
      refine ifB_dec (fun hlt => ?_) fun hge => ?_
      · have hi1 : i < es.length := by omega
        have hei : es[i]? = some es[i] := List.getElem?_eq_getElem hi1
        have hdrop : es.drop i = es[i] :: es.drop (i + 1) := List.drop_eq_getElem_cons hi1
        rw [hdrop, List.map_cons] at g1 g2
        rw [hdrop, List.map_cons] at h7
        have hrd : RdC w5 s 2 ((elP T_api_Entry).flat es) := h7.tail.rdc
        refine ixEl (E := elP T_api_Entry) (xs := es) (x := es[i]) et_ents rfl hrd (i := (i : Int)) (by omega) hei (by show i < s.len; omega) fun a1 ha1 => ?_
        refine ldAggC (cs := es[i].cells) (fun j u hu => ha1 j u hu) ?_
        refine newAgg (cs := es[i].cells) (z := [.int .i64 0, .slice none 0 0]) h7 (fun u hu => (elP T_api_Entry).one es[i] u hu) fun a2 w6 h8 => ?_
        have g8 : Sat W w6 (Blk a0 m2.cells T_api_RMsg :: _) := h8.up 4
        refine ldX g8 4 (x := m2.index) ?_
        rw [w_i64 (n := m2.index + 1) (by omega) (by omega), w_i64 (n := m2.index + 1 + i) (by omega) (by omega)]
        have h9 : Sat W w6 (RaR b q :: Blk a2 es[i].cells T_api_Entry :: BsR es[i].s es[i].d :: SlR T_api_Entry 2 s ((elP T_api_Entry).flat es) :: All ((es.drop (i + 1)).map (elP T_api_Entry).own) :: Blk a0 m2.cells T_api_RMsg :: l) := by
          have a : Sat W w6 (All ((elP T_api_Entry).own es[i] :: (es.drop (i + 1)).map (elP T_api_Entry).own) :: _) := h8.up 3
          have c := sat_all_cons a
          exact c.sel 6 [3, 2, 0, 4, 1, 5]
        refine ⟨fun _ w' => ¬ ((q.termAt (m2.index + 1 + i)).2 = true ∧ (q.termAt (m2.index + 1 + i)).1 = es[i].dat.1) ∧ Sat W w' (RaR b q :: Blk a2 es[i].cells T_api_Entry :: BsR es[i].s es[i].d :: SlR T_api_Entry 2 s ((elP T_api_Entry).flat es) :: All ((es.drop (i + 1)).map (elP T_api_Entry).own) :: Blk a0 m2.cells T_api_RMsg :: l), ?_, ?_⟩
        · rintro _ w7 ⟨hno, h10⟩
          simp only [Rs.takeEnts, Rs.stops, if_neg hno] at g1 g2
          obtain ⟨p, h11⟩ := sat_ra.1 h10
          refine ldX h11 10 (x := q.commit) ?_
          refine ifB_dec (fun c => ?_) fun c => ?_
          · rw [if_pos c] at g1 g2
            rw [if_pos g2.symm, ← g1] at hK
            exact hK w7 (h10.sel 6 [0])
          · rw [if_neg c] at g1 g2
            have hk : m2.index + 1 + (i : Int) - q.hd.base - 1 = ((m2.index + i - q.hd.base).toNat : Int) := by omega
            refine lay_step (k := (m2.index + i - q.hd.base).toNat) h10 hk hq.base (by omega) hq.len fun w8 h12 => ?_
            have hcut : ∀ X : Rs → Prop, X (cutLog q (m2.index + i - q.hd.base).toNat es[i].dat) → X { q with hd := { q.hd with log := q.hd.log.take (m2.index + 1 + (i : Int) - q.hd.base - 1).toNat ++ [es[i].dat] }, save := true } := by
              intro X hX
              rw [hk, Int.toNat_natCast]; exact hX
            have e1 : (cutLog q (m2.index + i - q.hd.base).toNat es[i].dat) = { q with hd := { q.hd with log := q.hd.log.take (m2.index + 1 + (i : Int) - q.hd.base - 1).toNat ++ [es[i].dat] }, save := true } := hcut (fun x => (cutLog q (m2.index + i - q.hd.base).toNat es[i].dat) = x) rfl
            rw [← e1] at g1 g2
            have e2 : m2.index + 1 + (i : Int) + 1 = m2.index + 1 + ((i + 1 : Nat) : Int) := by omega
            rw [e2] at g1 g2
            rw [w_i64 (n := (i : Int) + 1) (by omega) (by omega)]
            have hcl : (cutLog q (m2.index + i - q.hd.base).toNat es[i].dat).hd.log.length = (m2.index + i - q.hd.base).toNat + 1 := by
              show (q.hd.log.take _ ++ [_]).length = _
              rw [List.length_append, List.length_take]; simp; omega
            have hcb : (cutLog q (m2.index + i - q.hd.base).toNat es[i].dat).hd.base = q.hd.base := rfl
            refine ⟨⟨i + 1, cutLog q (m2.index + i - q.hd.base).toNat es[i].dat, by show (i : Int) + 1 = ((i + 1 : Nat) : Int); omega, by omega, g1, g2, hq.cut _ _ (by omega) ?_, hqb, ?_, by rw [hcl]; omega, h12.cut 1⟩, by show es.length - ((i : Int) + 1).toNat < es.length - (i : Int).toNat; omega⟩
            · have := hsm2.2 es[i].dat (by rw [← he]; exact List.mem_map_of_mem (List.getElem_mem hi1))
              exact this
            · show m2.index + ((i + 1 : Nat) : Int) ≤ (cutLog q (m2.index + i - q.hd.base).toNat es[i].dat).hd.base + ((cutLog q (m2.index + i - q.hd.base).toNat es[i].dat).hd.log.length : Int)
              rw [hcl, hcb]; omega
        · refine term_ok h9 hq (by omega) fun w7 h10 => ⟨(_, _, ()), rfl, ?_⟩
          have g10 : Sat W w7 (Blk a2 es[i].cells T_api_Entry :: _) := h10.tail
          refine ifB_intro (fun c1 => ?_) fun c1 => ⟨fun h => (by have c1 : (q.termAt (m2.index + 1 + i)).2 = false := c1; rw [c1] at h; exact Bool.noConfusion h.1), h10⟩
          have c1 : (q.termAt (m2.index + 1 + i)).2 = true := c1
          refine ldX g10 0 (x := es[i].t) ?_
          refine ifB_beq (fun c2 => ?_) fun c2 => ⟨fun h => c2 h.2, h10⟩
          have hyes : (q.termAt (m2.index + 1 + i)).2 = true ∧ (q.termAt (m2.index + 1 + i)).1 = es[i].dat.1 := ⟨c1, c2⟩
          simp only [Rs.takeEnts, Rs.stops, if_pos hyes] at g1 g2
          have e2 : m2.index + 1 + (i : Int) + 1 = m2.index + 1 + ((i + 1 : Nat) : Int) := by omega
          rw [e2] at g1 g2
          obtain ⟨t1, t2⟩ := termAt_range c1 (Nat.zero_le _)
          rw [w_i64 (n := (i : Int) + 1) (by omega) (by omega)]
          exact ⟨⟨i + 1, q, by show (i : Int) + 1 = ((i + 1 : Nat) : Int); omega, by omega, g1, g2, hq, hqb, by omega, by omega, (h10.cut 1).cut 1⟩, by show es.length - ((i : Int) + 1).toNat < es.length - (i : Int).toNat; omega⟩
      · have hin : i = es.length := by omega
        subst hin
        rw [List.drop_length] at g1 g2
        simp only [List.map_nil, Rs.takeEnts, Rs.stops] at g1 g2
        rw [← g2, ← g1, if_neg (by decide)] at hK
        have h8 : Sat W w5 (Blk a0 m2.cells T_api_RMsg :: _) := h7.up 3
        refine ldX h8 4 (x := m2.index) ?_
        refine ldX (k := .sl) h8 8 (x := m2.es) ?_
        rw [hlen2, w_i64 (n := m2.index + (m2.ents.length : Int)) (by omega) (by omega)]
        have h9 : Sat W w5.drew (RaR b q :: Blk a0 m2.cells T_api_RMsg :: l) := (h7.cut 1).cut 1 |>.drew
        obtain ⟨p, h10⟩ := sat_ra.1 h9
        refine ⟨fun w => ∃ L, Sat W w (Blk a0 m2.cells T_api_RMsg :: L), ⟨_, h10.up 9⟩, ?_⟩
        refine hldX (fun _ h => h) 6 (x := m2.commit) ?_
        refine ldX h10 10 (x := q.commit) ⟨⟨_, h10.up 9⟩, ?_⟩
        have e0 : (if (if m2.index + (m2.ents.length : Int) < m2.commit then m2.index + (m2.ents.length : Int) else m2.commit) > q.commit then if m2.index + (m2.ents.length : Int) < m2.commit then m2.index + (m2.ents.length : Int) else m2.commit else q.commit) = max q.commit (min m2.commit (m2.index + m2.ents.length)) := by
          split <;> split at * <;> omega
        rw [e0]
        let q2 : Rs := { q with commit := max q.commit (min m2.commit (m2.index + m2.ents.length)) }
        refine stX h10 10 (hi := (by show 10 < 28; decide)) fun w6 h11 => ⟨⟨_, h11.up 9⟩, ?_⟩
        have h11 : Sat W w6 (RaL b q2 p (Blk a0 m2.cells T_api_RMsg :: l)) := h11
        have h12 := h11.drew
        refine ⟨SMg W b a0 m2 q2.hd q2.commit, ⟨_, p, ⟨_, h12⟩, rfl, rfl, _, h12.up 9⟩, ?_⟩
        refine ldM 1 (x := m2.frm) ?_
        refine ldR 2 (x := q2.hd.term) ?_ (fun r' p' e1 _ => by rw [← e1]; rfl)
        have h13 : Sat W w6.drew (RaL b q2 p (elM.own (mgNil 6 m2.frm q2.hd.term (m2.index + m2.ents.length) false) :: Blk a0 m2.cells T_api_RMsg :: l)) := (own_mgNil h12).sel 10 [1, 2, 3, 4, 5, 6, 7, 8, 9, 0]
        refine sendL_ok (m := mgNil 6 m2.frm q2.hd.term (m2.index + m2.ents.length) false) h13 hq.msgs fun s' w7 h14 => tupU rfl ⟨⟨q2.send (mgNil 6 m2.frm q2.hd.term (m2.index + m2.ents.length) false).dat, _, ⟨_, h14⟩, rfl, rfl, _, h14.up 9⟩, ?_⟩
        exact hK w7 (sat_ra.2 ⟨_, h14.cut 9⟩)
    · have g2 : Sat W w2 (Blk a0 m2.cells T_api_RMsg :: _) := h2.tail
      refine ldX g2 4 (x := m2.index) ?_
      refine term_ok h2 hs (by omega) fun w3 h3 => ⟨(_, _, ()), rfl, ?_⟩
      refine ifB_intro (fun c1 => ?_) fun c1 => ?_
      · have c1 : (r.termAt m2.index).2 = false := by simpa using c1
        exact refuse (.inl c1) h3
      · have c1 : (r.termAt m2.index).2 = true := by simpa using c1
        have g3 : Sat W w3 (Blk a0 m2.cells T_api_RMsg :: _) := h3.tail
        refine ldX g3 5 (x := m2.lterm) ?_
        refine ifB_bne (fun c2 => ?_) fun c2 => ?_
        · exact refuse (.inr c2) h3
        · exact ⟨⟨c1, c2⟩, h3⟩
  · have h2 := h1.drew
    refine ldX h2 4 (x := m.index) ?_
    obtain ⟨p, h3⟩ := sat_ra.1 h2.swap
    refine ldX h3 4 (x := r.hd.base) ?_
    refine ifB_dec (fun c => ?_) fun c => ?_
    · have h4 := h3.drew
      have g4 : Sat W w1.drew.drew (Blk a0 m.cells T_api_RMsg :: _) := h4.up 9
      refine ldX h4 4 (x := r.hd.base) ?_
      refine ldX g4 4 (x := m.index) ?_
      -- nothing to take
      have back : ∀ {w3 : World}, (m.index < 0 ∨ r.hd.base - m.index > m.ents.length) → Sat W w3 (RaR b r :: Blk a0 m.cells T_api_RMsg :: l) →
          ∃ S15 : World → Prop, (S15 w3.drew) ∧
              HRun S15 (.int .i64) P (Instr.loadAt T_int (.pointer (some (Go.Addr.add ⟨a0, 0, none⟩ 1)))) fun (n16 : Int) =>
               nilCk (some ⟨b, 0, none⟩) fun (a17 : Addr) =>
                HRun S15 (.int .i64) P (Instr.loadAt T_int (.pointer (some ((a17.add 2).add 0)))) fun (n18 : Int) =>
                nilCk (some ⟨b, 0, none⟩) fun (a19 : Addr) =>
                HRun S15 (.int .i64) P (Instr.loadAt T_int (.pointer (some (a19.add 10)))) fun (n20 : Int) =>
                CallP P F_raft_Raft_send [(.pointer (some ⟨b, 0, none⟩)), (.agg #[(.int .i64 6), (.int .i64 0), (.int .i64 n16), (.int .i64 n18), (.int .i64 n20), (.int .i64 0), (.int .i64 0), (.bool false), (.slice none 0 0), (.slice none 0 0)])] w3.drew fun (v21 : Value) w22 =>
                TupP [] v21 fun (t23 : Unit) =>
                (S15 w22) ∧
                K (.tuple #[]) w22 := by
        intro w3 hbad h5
        obtain ⟨p, h6⟩ := sat_ra.1 h5.drew
        refine ⟨SMg W b a0 m r.hd r.commit, ⟨_, p, ⟨_, h6⟩, rfl, rfl, _, h6.up 9⟩, ?_⟩
        refine ldM 1 (x := m.frm) ?_
        refine ldR 2 (x := r.hd.term) ?_ (fun r' p' e1 _ => by rw [← e1]; rfl)
        refine ldR 10 (x := r.commit) ?_ (fun r' p' _ e2 => by rw [← e2]; rfl)
        have h7 : Sat W w3.drew (RaL b r p (elM.own (mgNil 6 m.frm r.hd.term r.commit false) :: Blk a0 m.cells T_api_RMsg :: l)) := (own_mgNil h6).sel 10 [1, 2, 3, 4, 5, 6, 7, 8, 9, 0]
        refine sendL_ok (m := mgNil 6 m.frm r.hd.term r.commit false) h7 hs.msgs fun s' w5 h8 => tupU rfl ⟨⟨r.send (mgNil 6 m.frm r.hd.term r.commit false).dat, _, ⟨_, h8⟩, rfl, rfl, _, h8.up 9⟩, ?_⟩
        have e : r.take m.dat = r.send (mgNil 6 m.frm r.hd.term r.commit false).dat := by
          unfold Rs.take
          rw [if_pos (by exact c), if_pos (by exact hbad)]
          rfl
        rw [e] at hK
        exact hK w5 (sat_ra.2 ⟨_, h8.cut 9⟩)
      have h5 : Sat W w1.drew.drew (RaR b r :: Blk a0 m.cells T_api_RMsg :: l) := sat_ra.2 ⟨p, h4⟩
      refine ⟨fun _ w' => ¬ (m.index < 0 ∨ r.hd.base - m.index > m.ents.length) ∧ Sat W w' (RaR b r :: Blk a0 m.cells T_api_RMsg :: l), ?_, ?_⟩
      · rintro _ w3 ⟨hok, h6⟩
        have g6 : Sat W w3 (Blk a0 m.cells T_api_RMsg :: _) := h6.tail
        refine ldX (k := .sl) g6 8 (x := m.es) ?_
        rw [w_i64 (n := r.hd.base - m.index) (by omega) (by omega)]
        refine ⟨subSl m.es 2 (r.hd.base - m.index).toNat m.es.len, run_sliceLo et_ents (by omega) (by omega) hcap _, ?_⟩
        refine stX (h6.swap) 8 (v := (subSl m.es 2 (r.hd.base - m.index).toNat m.es.len).v) (hi := (by show 8 < 10; decide)) fun w4 h7 => ?_
        let mA : MgC := { m with es := subSl m.es 2 (r.hd.base - m.index).toNat m.es.len, ents := m.ents.drop (r.hd.base - m.index).toNat }
        have h7 : Sat W w4 (Blk a0 mA.cells T_api_RMsg :: RaR b r :: l) := h7
        obtain ⟨p, h8⟩ := sat_ra.1 h7.drew.swap
        refine ⟨fun w => ∃ L, Sat W w (Blk b (rcells r p) T_raft_Raft :: L), ⟨_, h8⟩, ?_⟩
        refine hldX (fun _ h => h) 4 (x := r.hd.base) ?_
        refine hldX (fun _ h => h) 5 (x := r.hd.bterm) ?_
        have h9 : Sat W w4.drew (Blk a0 mA.cells T_api_RMsg :: RaL b r p l) := h8.up 9
        refine stX h9 4 (hi := (by show 4 < 10; decide)) fun w5 h10 => ⟨⟨_, h10.up 1⟩, ?_⟩
        refine stX h10 5 (hi := (by show 5 < 10; decide)) fun w6 h11 => ⟨⟨_, h11.up 1⟩, ?_⟩
        let mB : MgC := { mA with index := r.hd.base, lterm := r.hd.bterm }
        have h11 : Sat W w6 (Blk a0 mB.cells T_api_RMsg :: RaL b r p l) := h11
        have h12 : Sat W w6 (RaR b r :: Blk a0 mB.cells T_api_RMsg :: l) := sat_ra.2 ⟨p, h11.sel 10 [1, 2, 3, 4, 5, 6, 7, 8, 9, 0]⟩
        refine ⟨mB, h12, ⟨hm.1.drop (by omega), hm.2⟩, Int.le_refl _, by show r.hd.base < _; omega, ⟨?_, fun e he => hsm.2 e (List.mem_of_mem_drop he)⟩, ?_, ?_⟩
        · have := hsm.1
          show (m.ents.drop _).length < _; rw [List.length_drop]; omega
        · show r.hd.log.length + (m.ents.drop _).length < _; rw [List.length_drop]; omega
        · unfold Rs.take
          rw [if_pos (by exact c), if_neg (by exact hok)]
          rfl
      · refine ldX g4 4 (x := m.index) ?_
        refine ifB_dec (fun c2 => back (.inl c2) h5) fun c2 => ?_
        refine ldX (k := .sl) g4 8 (x := m.es) ?_
        rw [hlen, w_i64 (n := r.hd.base - m.index) (by omega) (by omega)]
        refine ifB_dec (fun c3 => ?_) fun c3 => ⟨fun h => ?_, h5⟩
        · exact back (.inr c3) h5
        · rcases h with h | h
          · exact c2 h
          · exact c3 h
    · refine ⟨m, h2.swap, hm, by omega, hi.2, hsm, hroom, ?_⟩
      unfold Rs.take
      rw [if_neg (by exact c)]
      rfl
end
end Go.Proofs.Ytfbffgcoopelfaa
