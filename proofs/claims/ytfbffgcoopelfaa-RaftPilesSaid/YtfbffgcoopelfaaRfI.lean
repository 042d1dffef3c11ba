/- Layer 12: what another one hasn't got is sent. -/
import Derived.Test.YtfbffgcoopelfaaRfH
namespace Go.Proofs.Ytfbffgcoopelfaa
open Go Go.Pk
section
variable {W w : World} {l : List Res} {K : Value → World → Prop} {b : Nat} {r : Rs} {p : RsP}
theorem EnRd.part {s : Sl} {es : List EnC} {lo n : Nat} (hl : s.len = es.length) (h1 : lo ≤ es.length) (h2 : n ≤ es.length - lo) : EnRd W (OwnS (elP T_api_Entry) s es :: l) ⟨(subSl s 2 lo s.len).a, n, (subSl s 2 lo s.len).cap⟩ (((es.map EnC.dat).drop lo).take n) := by
  refine ⟨(es.drop lo).take n, by rw [List.map_take, List.map_drop], ?_, fun e he => ?_⟩
  · have a : Rd W (OwnS (elP T_api_Entry) s es :: l) s 2 ((elP T_api_Entry).flat es) := Rd.ownS
    have b := a.sub (lo := lo) (hi := s.len) (by omega) (Nat.le_refl _)
    have c := b.hi (n := n) (by simp only [subSl]; omega)
    have e1 : ((elP T_api_Entry).flat es).drop (lo * 2) = (elP T_api_Entry).flat (es.drop lo) := flat_drop (E := elP T_api_Entry) es lo
    have e2 : ((elP T_api_Entry).flat (es.drop lo)).take ((s.len - lo) * 2) = (elP T_api_Entry).flat (es.drop lo) := by
      have := flat_take (E := elP T_api_Entry) (es.drop lo) (s.len - lo)
      have e : (es.drop lo).take (s.len - lo) = es.drop lo := List.take_of_length_le (by rw [List.length_drop]; omega)
      rw [e] at this
      exact this
    have e3 : ((elP T_api_Entry).flat (es.drop lo)).take (n * 2) = (elP T_api_Entry).flat ((es.drop lo).take n) := flat_take (E := elP T_api_Entry) (es.drop lo) n
    rw [e1, e2, e3] at c
    exact c
  · have he' : e ∈ es := List.mem_of_mem_drop (List.mem_of_mem_take he)
    obtain ⟨i, hi⟩ := List.getElem?_of_mem he'
    exact Rd.ownE hi fun l => Rd.own
theorem sm_part {xs : List En} (h : EnSm xs) (lo n : Nat) : EnSm ((xs.drop lo).take n) :=
  ⟨by have := h.1; simp; omega, fun e he => h.2 e (List.mem_of_mem_drop (List.mem_of_mem_take he))⟩
theorem feed_ok {to : Int} (h : Sat W w (RaR b r :: l)) (hs : Sane r) (h0 : 0 ≤ to) (h1 : to < r.n) (hx : 0 ≤ Rs.at_ r.next to ∧ Rs.at_ r.next to < 4611690416473899008) (hK : ∀ w', Sat W w' (RaR b (r.feed to) :: l) → K (.tuple #[]) w') :
    CallP P F_raft_Raft_feed [.pointer (some ⟨b, 0, none⟩), .int .i64 to] w K := by
  apply c_raft_Raft_feed
  unfold S_raft_Raft_feed
  obtain ⟨p, h2⟩ := sat_ra.1 h
  have hnl := hs.next
  have hlt : to.toNat < r.next.length := by omega
  have hat : Rs.at_ r.next to = r.next[to.toNat] := by unfold Rs.at_; rw [List.getElem?_eq_getElem hlt]
  refine ldX h2 15 (x := p.next) ?_
  refine ixld et_ints ((h2.up 4).rdc) h0 (k := .int .i64) (x := Rs.at_ r.next to) (by rw [hat]; simp [hlt, vI]) ?_
  generalize hv : Rs.at_ r.next to = v at hx
  rw [w_i64 (n := v - 1) (by omega) (by omega)]
  refine term_ok h hs (by omega) fun w3 h3 => ⟨(_, _, ()), rfl, ?_⟩
  obtain ⟨p, h4⟩ := sat_ra.1 h3
  let S : World → Prop := fun w => ∃ r' p' L, r'.hd = r.hd ∧ r'.commit = r.commit ∧ p'.snap = p.snap ∧ Sat W w (Blk b (rcells r' p') T_raft_Raft :: L)
  have ld : ∀ {k : Kd} {t : TypeId} {A : Addr} (i : Nat) {x : k.Ty} {K : k.Ty → Prop}, K x → (∀ r' p', r'.hd = r.hd → r'.commit = r.commit → p'.snap = p.snap → (rcells r' p')[i]? = some (k.v x)) → A = ⟨b, i, none⟩ → oneT P t = true → HRun S k P (Instr.loadAt t (.pointer (some A))) K := by
    intro k t A i x K hk hx hA ht
    subst hA
    refine ⟨x, fun w hw => ?_, hk⟩
    obtain ⟨r', p', L, e1, e2, e3, hp⟩ := hw
    exact run_load1 ht (by rw [Sat.cell (cs := rcells r' p') hp, hx r' p' e1 e2 e3])
  refine ifB_intro (fun hn => ?_) fun hn => ?_
  · have hok : (r.termAt (v - 1)).2 = false := by simpa using hn
    have h5 := h4.drew
    refine ⟨S, ⟨r, p, _, rfl, rfl, rfl, h5⟩, ?_⟩
    refine ld 2 (x := r.hd.term) ?_ (fun r' p' e1 _ _ => by rw [← e1]; rfl) rfl (by kernel_rfl)
    refine ld 4 (x := r.hd.base) ?_ (fun r' p' e1 _ _ => by rw [← e1]; rfl) rfl (by kernel_rfl)
    refine ld 5 (x := r.hd.bterm) ?_ (fun r' p' e1 _ _ => by rw [← e1]; rfl) rfl (by kernel_rfl)
    refine ld 10 (x := r.commit) ?_ (fun r' p' _ e2 _ => by rw [← e2]; rfl) rfl (by kernel_rfl)
    refine ld 6 (x := p.snap) ?_ (fun r' p' _ _ e3 => by rw [← e3]; rfl) rfl (by kernel_rfl)
    refine cpBytes h5 ((h5.up 1).rdc) hs.small.1 fun s w5 h6 => ⟨⟨r, p, _, rfl, rfl, rfl, h6.up 1⟩, ?_⟩
    let m : MgC := ⟨7, 0, to, r.hd.term, r.hd.base, r.hd.bterm, r.commit, false, ⟨none, 0, 0⟩, [], s, r.hd.snap⟩
    have h7 : Sat W w5 (RaL b r p (elM.own m :: l)) := by
      have a : Sat W w5 (PrR T_api_Entry ⟨none, 0, 0⟩ [] :: _) := pr_nil h6
      have c : Sat W w5 (elM.own m :: RaL b r p l) := (sat_all (l' := [PrR T_api_Entry ⟨none, 0, 0⟩ [], BsR s r.hd.snap])).2 a
      exact c.sel 10 [1, 2, 3, 4, 5, 6, 7, 8, 9, 0]
    refine sendL_ok (m := m) h7 hs.msgs fun s' w6 h8 => tupU rfl ⟨⟨r.send m.dat, { p with msgs := s' }, _, rfl, rfl, rfl, h8⟩, ?_⟩
    have e : r.feed to = r.send m.dat := by
      simp only [Rs.feed, hv, hok, if_true]
      rfl
    exact hK w6 (by rw [e]; exact sat_ra.2 ⟨_, h8⟩)
  · have hok : (r.termAt (v - 1)).2 = true := by simpa using hn
    have hrange : v - 1 = r.hd.base ∨ (r.hd.base ≤ v - 1 ∧ v - 1 ≤ r.last) := by
      unfold Rs.termAt at hok
      split at hok
      · exact .inl ‹_›
      · split at hok
        · cases hok
        · right; omega
    have hb := hs.base
    have hlast : r.last = r.hd.base + r.hd.log.length := rfl
    have h5 := h4.drew
    have hpl := ra_log h5
    refine ldX h5 7 (x := p.log) ?_
    refine ldX h5 4 (x := r.hd.base) ?_
    rw [w_i64 (n := v - 1 - r.hd.base) (by omega) (by omega)]
    obtain ⟨es, he, h6⟩ := sat_pr.1 (h5.up 2)
    have hel : es.length = r.hd.log.length := by rw [← he]; simp
    have hcap := own_len h6 (by decide : 0 < 2)
    refine ⟨subSl p.log 2 (v - 1 - r.hd.base).toNat p.log.len, run_sliceLo et_ents (by omega) (by omega) (by omega) _, ?_⟩
    generalize hlo : (v - 1 - r.hd.base).toNat = lo
    have hlo' : lo ≤ es.length := by omega
    have h7 := h6.drew
    refine ⟨S, ⟨r, p, _, rfl, rfl, rfl, h7.up 1⟩, ?_⟩
    refine ld 2 (x := r.hd.term) ?_ (fun r' p' e1 _ _ => by rw [← e1]; rfl) rfl (by kernel_rfl)
    refine ld 10 (x := r.commit) ?_ (fun r' p' _ e2 _ => by rw [← e2]; rfl) rfl (by kernel_rfl)
    have hsl : (subSl p.log 2 lo p.log.len).len = p.log.len - lo := rfl
    have hsc : (subSl p.log 2 lo p.log.len).cap = p.log.cap - lo := rfl
    obtain ⟨n, hn, hnm⟩ : ∃ n : Nat, (if (16 : Int) < ((subSl p.log 2 lo p.log.len).len : Int) then (16 : Int) else ((subSl p.log 2 lo p.log.len).len : Int)) = (n : Int) ∧ n = min 16 (es.length - lo) := by
      by_cases hc : (16 : Int) < ((subSl p.log 2 lo p.log.len).len : Int)
      · exact ⟨16, by rw [if_pos hc]; rfl, by rw [hsl] at hc; omega⟩
      · exact ⟨(subSl p.log 2 lo p.log.len).len, by rw [if_neg hc], by rw [hsl] at hc ⊢; omega⟩
    rw [hn]
    refine ⟨⟨(subSl p.log 2 lo p.log.len).a, n, (subSl p.log 2 lo p.log.len).cap⟩, fun w' _ => run_sliceHi et_ents (by omega) (by omega) w', ?_⟩
    have hsm := hs.small.2
    rw [← he] at hsm
    refine entries_ok h7 (EnRd.part (by omega) hlo' (by omega)) (sm_part hsm lo n) fun s w5 h8 => tyI ⟨⟨r, p, _, rfl, rfl, rfl, h8.up 2⟩, ?_⟩
    let m : MgC := ⟨5, 0, to, r.hd.term, v - 1, (r.termAt (v - 1)).1, r.commit, false, s, ((es.map EnC.dat).drop lo).take n, ⟨none, 0, 0⟩, []⟩
    have h9 : Sat W w5 (RaL b r p (elM.own m :: l)) := by
      have h8' : Sat W w5 (PrR T_api_Entry s (((es.map EnC.dat).drop lo).take n) :: OwnS (elP T_api_Entry) p.log es :: Blk b (rcells r p) T_raft_Raft :: BsR p.snap r.hd.snap :: VtR p.votes r.votes :: IsR p.next r.next :: IsR p.mtch r.mtch :: MsR p.msgs r.msgs :: BsR p.rsnap r.rsnap :: PrR T_api_Commit p.commits r.commits :: l) := h8
      have a : Sat W w5 (BsR ⟨none, 0, 0⟩ [] :: _) := Sat.nilSlr h8' T_uint8 1
      have a2 := a.swap
      have c : Sat W w5 (elM.own m :: _) := (sat_all (l' := [PrR T_api_Entry s (((es.map EnC.dat).drop lo).take n), BsR ⟨none, 0, 0⟩ []])).2 a2
      have d := sat_pr.2 ⟨es, he, c.swap⟩
      exact d.sel 10 [2, 3, 0, 4, 5, 6, 7, 8, 9, 1]
    refine sendL_ok (m := m) h9 hs.msgs fun s' w6 h10 => tupU rfl ⟨⟨r.send m.dat, { p with msgs := s' }, _, rfl, rfl, rfl, h10⟩, ?_⟩
    have e : r.feed to = r.send m.dat := by
      have ht : ((r.hd.log.drop lo).take 16) = ((es.map EnC.dat).drop lo).take n := by
        rw [he, hnm]
        by_cases hc : 16 ≤ es.length - lo
        · rw [Nat.min_eq_left hc]
        · rw [Nat.min_eq_right (by omega), List.take_of_length_le (by simp; omega), List.take_of_length_le (by simp; omega)]
      simp only [Rs.feed, hv, hok]
      rw [if_neg (by decide), hlo, ht]
      rfl
    exact hK w6 (by rw [e]; exact sat_ra.2 ⟨_, h10⟩)
end
end Go.Proofs.Ytfbffgcoopelfaa
