/- Layer 12: asking for votes; the clock; proposing. -/
import Derived.Test.YtfbffgcoopelfaaRfK
namespace Go.Proofs.Ytfbffgcoopelfaa
open Go Go.Pk
theorem asked_eq (r : Rs) (kd tm : Int) : ∀ k : Nat, ∃ ms : List Mg, ms.length ≤ k ∧ r.asked kd tm k = { r with msgs := r.msgs ++ ms }
  | 0 => ⟨[], by simp, by simp [Rs.asked]⟩
  | k + 1 => by
    obtain ⟨ms, h1, h2⟩ := asked_eq r kd tm k
    simp only [Rs.asked]
    split
    · exact ⟨ms, by omega, h2⟩
    · have key : ∀ (q : Rs) (m : Mg), ∃ m', q.send m = { q with msgs := q.msgs ++ [m'] } := fun q m => ⟨_, rfl⟩
      obtain ⟨m', hm'⟩ := key (r.asked kd tm k) { Rs.mg0 with kind := kd, to := k, term := tm, index := r.last, lterm := (r.termAt r.last).1 }
      refine ⟨ms ++ [m'], by simp; omega, ?_⟩
      rw [hm', h2]
      simp
abbrev candC (r : Rs) : Rs := { r with role := 2, leader := -1, hd := { r.hd with term := r.hd.term + 1, vote := r.id }, save := true }
abbrev candP (r : Rs) : Rs := { r with role := 1, leader := -1 }
def cand (r : Rs) (x : Int) : Rs := if x = 2 then candC r else candP r
def candV (r : Rs) (x : Int) : Rs := { cand r x with votes := some [(r.id, true)] }
def askSt (r : Rs) (x : Int) : Rs := (candV r x).asked (if x = 2 then 3 else 1) (r.hd.term + 1) r.n.toNat
section
variable {W w : World} {l : List Res} {K : Value → World → Prop} {b : Nat} {r : Rs} {p : RsP}
theorem sane_cand (hs : Sane r) (ht : r.hd.term + 1 < 4611686018427387904) (x : Int) : Sane (candV r x) := by
  unfold candV
  have h : Sane (cand r x) := by
    unfold cand
    split
    · exact { base := hs.base, len := hs.len, id := hs.id, n := hs.n, commit := hs.commit, told := hs.told, ticks := hs.ticks, limit := hs.limit, term := (by have := hs.term; show -9223372036854775808 ≤ r.hd.term + 1 ∧ r.hd.term + 1 < 4611686018427387904; omega), next := hs.next, mtch := hs.mtch, small := hs.small, msgs := hs.msgs, commits := hs.commits }
    · exact hs.of
  exact h.of
theorem cand_same (r : Rs) (x : Int) : (candV r x).id = r.id ∧ (candV r x).n = r.n ∧ (candV r x).msgs = r.msgs ∧ (candV r x).last = r.last ∧ (candV r x).hd.log = r.hd.log ∧ (candV r x).next = r.next ∧ (candV r x).role = (if x = 2 then 2 else 1) ∧ (candV r x).votes = some [(r.id, true)] := by
  unfold candV cand
  split <;> exact ⟨rfl, rfl, rfl, rfl, rfl, rfl, rfl, rfl⟩
theorem ask_base {x : Int} (hx : x = 1 ∨ x = 2) (h : Sat W w (RaR b r :: l)) (hs : Sane r) (ht : r.hd.term + 1 < 4611686018427387904) (hm : r.msgs.length + 200 < 2 ^ 40)
    (hK : ∀ w', Sat W w' (RaR b (askSt r x) :: l) → CallP P F_raft_Raft_count [.pointer (some ⟨b, 0, none⟩)] w' fun v w => TupP [] v fun _ => K (.tuple #[]) w) :
    CallP P F_raft_Raft_ask [.pointer (some ⟨b, 0, none⟩), .int .i64 x] w K := by
  apply c_raft_Raft_ask
  unfold S_raft_Raft_ask
  obtain ⟨p, h1⟩ := sat_ra.1 h
  have hn := hs.n
  have hid := hs.id
  have htm := hs.term
  refine stX h1 8 (hi := (by show 8 < 28; decide)) fun w2 h2 => ?_
  refine stX h2 9 (hi := (by show 9 < 28; decide)) fun w3 h3 => ?_
  have h3 : Sat W w3 (RaL b { r with role := x, leader := -1 } p l) := h3
  have h4 := h3.drew
  refine ldX h4 2 (x := r.hd.term) ?_
  rw [w_i64 (n := r.hd.term + 1) (by omega) (by omega)]
  let kd : Int := if x = 2 then 3 else 1
  refine ⟨fun t w' => t = (kd, ()) ∧ Sat W w' (RaL b (cand r x) p l), ?_, ?_⟩
  · rintro _ w5 ⟨rfl, h5⟩
    refine mkMap (k := T_int) (e := T_bool) (by kernel_rfl) h5 .i64 (fun m w6 h6 => ?_) (fun w => by kernel_rfl)
    have e0 : (cand r x).id = r.id := by unfold cand; split <;> rfl
    refine ldX (h6.up 1) 0 (x := (cand r x).id) ?_
    rw [e0]
    refine mapUpd (k := T_int) (e := T_bool) (by kernel_rfl) (by kernel_rfl) h6 fun w7 h7 => ?_
    refine stX (h7.up 1) 14 (v := .map (some m)) (hi := (by show 14 < 28; decide)) fun w8 h8 => ?_
    let q : RsP := { p with votes := some m }
    have h9 : Sat W w8 (RaL b (candV r x) q l) := h8.sel 6 [0, 2, 3, 1, 5]
    have hsv := sane_cand hs ht x
    obtain ⟨c1, c2, c3, c4, c5, c6, c7, c8⟩ := cand_same r x
    have hlast := last_in hs
    refine lastL_ok h9 hsv fun w9 h10 => tyI ?_
    refine term_ok (sat_ra.2 ⟨q, h10⟩) hsv (by rw [c4]; omega) fun w10 h11 => ⟨(_, _, ()), rfl, ?_⟩
    obtain ⟨q2, h12⟩ := sat_ra.1 h11
    refine ldX h12 1 (x := (candV r x).n) ?_
    rw [c2]
    refine ⟨fun z w' => ∃ i : Nat, z.1 = i ∧ i ≤ r.n.toNat ∧ Sat W w' (RaR b ((candV r x).asked kd (r.hd.term + 1) i) :: l), fun z _ => r.n.toNat - z.1.toNat, ⟨0, rfl, Nat.zero_le _, sat_ra.2 ⟨q2, h12⟩⟩, ?_⟩
    rintro ⟨i', u⟩ w11 ⟨i, hi, hil, h13⟩
    simp only at hi ⊢
    subst hi
    refine ifB_dec (fun hlt => ?_) fun hge => ?_
    · obtain ⟨ms, hms, hme⟩ := asked_eq (candV r x) kd (r.hd.term + 1) i
      obtain ⟨q3, h14⟩ := sat_ra.1 h13
      have eid : ((candV r x).asked kd (r.hd.term + 1) i).id = r.id := by rw [hme]; exact c1
      refine ldX h14 0 (x := ((candV r x).asked kd (r.hd.term + 1) i).id) ?_
      rw [eid]
      refine ifB_bne (fun hne => ?_) fun he => ?_
      · let m1 : MgC := ⟨kd, 0, i, r.hd.term + 1, (candV r x).last, ((candV r x).termAt (candV r x).last).1, 0, false, ⟨none, 0, 0⟩, [], ⟨none, 0, 0⟩, []⟩
        have h15 : Sat W w11 (RaR b ((candV r x).asked kd (r.hd.term + 1) i) :: elM.own m1 :: l) := by
          have a : Sat W w11 (BsR ⟨none, 0, 0⟩ [] :: _) := Sat.nilSlr h13 T_uint8 1
          have c : Sat W w11 (PrR T_api_Entry ⟨none, 0, 0⟩ [] :: _) := pr_nil a
          exact ((sat_all (l' := [PrR T_api_Entry ⟨none, 0, 0⟩ [], BsR ⟨none, 0, 0⟩ []])).2 c).swap
        refine send_ok (m := m1) h15 ?_ fun w12 h16 => tupU rfl ?_
        · rw [hme]
          show ((candV r x).msgs ++ ms).length < 2 ^ 40
          rw [c3, List.length_append]; omega
        rw [w_i64 (n := (i : Int) + 1) (by omega) (by omega)]
        refine ⟨⟨i + 1, rfl, by omega, ?_⟩, by omega⟩
        have e : (candV r x).asked kd (r.hd.term + 1) (i + 1) = ((candV r x).asked kd (r.hd.term + 1) i).send m1.dat := by
          simp only [Rs.asked]
          rw [if_neg (by rw [c1]; exact hne)]
          rfl
        rw [e]; exact h16
      · rw [w_i64 (n := (i : Int) + 1) (by omega) (by omega)]
        refine ⟨⟨i + 1, rfl, by omega, ?_⟩, by omega⟩
        have e : (candV r x).asked kd (r.hd.term + 1) (i + 1) = (candV r x).asked kd (r.hd.term + 1) i := by simp only [Rs.asked]; rw [if_pos (by rw [c1]; exact he)]
        rw [e]; exact h13
    · have hii : i = r.n.toNat := by omega
      subst hii
      exact hK w11 h13
  · refine ifB_beq (fun c => ?_) fun c => ?_
    · subst c
      refine ldX h4 0 (x := r.id) ?_
      refine stX h4 2 (hi := (by show 2 < 28; decide)) fun w5 h5 => ?_
      refine stX h5 3 (hi := (by show 3 < 28; decide)) fun w6 h6 => ?_
      refine stX h6 17 (hi := (by show 17 < 28; decide)) fun w7 h7 => ⟨rfl, h7⟩
    · have c1 : x = 1 := by omega
      subst c1
      exact ⟨rfl, h4⟩
end
end Go.Proofs.Ytfbffgcoopelfaa
