/- Layer 12: an entry is laid. -/
import Derived.Test.YtfbffgcoopelfaaRfG
namespace Go.Proofs.Ytfbffgcoopelfaa
open Go Go.Pk
abbrev laid (r : Rs) (d : List UInt8) : Rs := { r with hd := { r.hd with log := r.hd.log ++ [(r.hd.term, d)] }, save := true }
abbrev laidM (r : Rs) (d : List UInt8) : Rs := { laid r d with mtch := r.mtch.set r.id.toNat (laid r d).last }
section
variable {W w : World} {l : List Res} {K : Value → World → Prop} {b : Nat} {r : Rs} {p : RsP}
theorem Sane.laid (hs : Sane r) {d : List UInt8} (hl : r.hd.log.length + 1 < 2 ^ 40) (hd : d.length ≤ 140737488355328) : Sane (laid r d) where
  base := hs.base
  len := by simpa using hl
  id := hs.id
  n := hs.n
  commit := hs.commit
  told := hs.told
  ticks := hs.ticks
  limit := hs.limit
  term := hs.term
  next := hs.next
  mtch := hs.mtch
  small := ⟨hs.small.1, by simpa using hl, fun e he => by
    rcases List.mem_append.1 he with he | he
    · exact hs.small.2.2 e he
    · simp at he; subst he; exact hd⟩
  msgs := hs.msgs
  commits := hs.commits
theorem append_ok {x : Sl} {d : List UInt8} (h : Sat W w (RaR b r :: l)) (hx : Rd W l x 1 (d.map vB)) (hd : d.length ≤ 140737488355328) (hs : Sane r) (hl : r.hd.log.length + 1 < 2 ^ 40) (hK : ∀ w', Sat W w' (RaR b (r.append d) :: l) → K (.tuple #[]) w') :
    CallP P F_raft_Raft_append [.pointer (some ⟨b, 0, none⟩), x.v] w K := by
  apply c_raft_Raft_append
  unfold S_raft_Raft_append
  obtain ⟨p, h1⟩ := sat_ra.1 h
  have h2 := h1.drew
  let S : World → Prop := fun w => ∃ r' p' L, r'.hd.term = r.hd.term ∧ Sat W w (Blk b (rcells r' p') T_raft_Raft :: L)
  have hS : ∀ {w : World} {L : List Res} {r' : Rs} {p' : RsP} (i : Nat), nthR L i = Blk b (rcells r' p') T_raft_Raft → r'.hd.term = r.hd.term → Sat W w L → S w := fun i he ht h => ⟨_, _, _, ht, by have := h.up i; rw [he] at this; exact this⟩
  refine ⟨S, ⟨r, p, _, rfl, h2⟩, ?_⟩
  have ld2 : ∀ {K : Int → Prop}, K r.hd.term → HRun S (.int .i64) P (Instr.loadAt T_int (.pointer (some (((⟨b, 0, none⟩ : Addr).add 2).add 0)))) K := fun hK =>
    ⟨r.hd.term, fun w hw => by
      obtain ⟨r', p', L, ht, h⟩ := hw
      have hc := Sat.cell (cs := rcells r' p') h 2
      exact run_load1 (by kernel_rfl) (by rw [← ht]; exact hc), hK⟩
  refine ld2 ?_
  have fin : ∀ {w : World} {s' : Sl}, Sat W w (PrR T_api_Entry s' (r.hd.log ++ [(r.hd.term, d)]) :: Blk b (rcells r p) T_raft_Raft :: BsR p.snap r.hd.snap :: VtR p.votes r.votes :: IsR p.next r.next :: IsR p.mtch r.mtch :: MsR p.msgs r.msgs :: BsR p.rsnap r.rsnap :: PrR T_api_Commit p.commits r.commits :: l) →
      S w ∧ StoreP P T_sl_api_Entry (.pointer (some (((⟨b, 0, none⟩ : Addr).add 2).add 5))) s'.v w fun w12 =>
                (S w12) ∧
                StoreP P T_bool (.pointer (some (((⟨b, 0, none⟩ : Addr).add 17).add 0))) (.bool true) w12 fun w14 =>
                ∃ S15 : World → Prop, (S15 w14.drew) ∧
                HRun S15 .sl P (Instr.loadAt T_sl_int (.pointer (some ((⟨b, 0, none⟩ : Addr).add 16)))) fun (s17 : Sl) =>
                HRun S15 (.int .i64) P (Instr.loadAt T_int (.pointer (some ((⟨b, 0, none⟩ : Addr).add 0)))) fun (n19 : Int) =>
                CallP P F_raft_Raft_last [(.pointer (some ⟨b, 0, none⟩))] w14.drew fun (v20 : Value) w21 =>
                TyP (.int .i64) v20 fun (n22 : Int) =>
                (S15 w21) ∧
                HRun S15 .addr P (Instr.indexAt T_sl_int s17.v (.int .i64 n19)) fun (a23 : Addr) =>
                StoreP P T_int (.pointer (some a23)) (.int .i64 n22) w21 fun w24 =>
                (S15 w24) ∧
                CallP P F_raft_Raft_advance [(.pointer (some ⟨b, 0, none⟩))] w24 fun (v25 : Value) w26 =>
                TupP [] v25 fun (_ : Unit) =>
                K (.tuple #[]) w26 := by
    intro w s' h3
    refine ⟨hS 1 rfl rfl h3, ?_⟩
    refine stX (h3.up 1) 7 (v := s'.v) (hi := (by show 7 < 28; decide)) fun w4 h4 => ?_
    have h4 : Sat W w4 (Blk b (rcells { r with hd := { r.hd with log := r.hd.log ++ [(r.hd.term, d)] } } { p with log := s' }) T_raft_Raft :: PrR T_api_Entry s' (r.hd.log ++ [(r.hd.term, d)]) :: BsR p.snap r.hd.snap :: VtR p.votes r.votes :: IsR p.next r.next :: IsR p.mtch r.mtch :: MsR p.msgs r.msgs :: BsR p.rsnap r.rsnap :: PrR T_api_Commit p.commits r.commits :: l) := h4
    refine ⟨⟨_, _, _, rfl, h4⟩, ?_⟩
    refine stX h4 17 (hi := (by show 17 < 28; decide)) fun w5 h5 => ?_
    let q : RsP := { p with log := s' }
    have h6 : Sat W w5.drew (RaL b (laid r d) q l) := (h5.sel 3 [0, 2, 1]).drew
    have hs1 : Sane (laid r d) := hs.laid hl hd
    let S15 : World → Prop := fun w => ∃ L, Sat W w (Blk b (rcells (laid r d) q) T_raft_Raft :: L)
    refine ⟨S15, ⟨_, h6⟩, ?_⟩
    refine hldX (fun _ h => h) 16 (x := p.mtch) ?_
    refine hldX (fun _ h => h) 0 (x := r.id) ?_
    refine lastL_ok h6 hs1 fun w7 h7 => tyI ⟨⟨_, h7⟩, ?_⟩
    have hid := hs.id
    have hml := hs.mtch
    obtain ⟨a0, ha0, hlt⟩ := is_some (h7.up 5) (n := r.id.toNat) (by show r.id.toNat < r.mtch.length; omega)
    refine ⟨_, fun w' _ => run_ix et_ints ha0 hid.1 hlt w', ?_⟩
    refine stSl (h7.up 5) ha0 hlt fun w8 h8 => ?_
    have h9 : Sat W w8 (RaL b (laidM r d) q l) := h8.dn 5
    refine ⟨⟨_, h8.up 1⟩, ?_⟩
    have hs2 : Sane (laidM r d) := hs1.of (e9 := by simp)
    refine advance_ok (sat_ra.2 ⟨q, h9⟩) hs2 fun w9 h10 => tupU rfl ?_
    exact hK w9 h10
  have hbr : ∀ {w : World}, Sat W w (RaL b r p l) → RdC w x 1 (d.map vB) := fun h => hx _ h.tail.tail.tail.tail.tail.tail.tail.tail.tail
  have en : ∀ {w : World} {ds : Sl} {g : Nat}, Sat W w (Blk g [.int .i64 r.hd.term, ds.v] T_api_Entry :: BsR ds d :: RaL b r p l) →
      Sat W w (Blk g [.int .i64 r.hd.term, ds.v] T_api_Entry :: BsR ds d :: PrR T_api_Entry p.log r.hd.log :: Blk b (rcells r p) T_raft_Raft :: BsR p.snap r.hd.snap :: VtR p.votes r.votes :: IsR p.next r.next :: IsR p.mtch r.mtch :: MsR p.msgs r.msgs :: BsR p.rsnap r.rsnap :: PrR T_api_Commit p.commits r.commits :: l) := fun h => h.sel 5 [0, 1, 4, 2, 3]
  have hll : r.hd.log.length < 2 ^ 41 := by omega
  refine ⟨?_, ?_, trivial⟩
  · refine ldX h2 7 (x := p.log) ⟨hS 0 rfl rfl h2, ?_⟩
    refine cpBytes h2 (hbr h2) hd fun ds w3 h3 => ⟨hS 1 rfl rfl h3, ?_⟩
    refine prBs h3 (run_bsEn _ _) fun g w4 h4 => ⟨hS 2 rfl rfl h4, ?_⟩
    exact prApp et_ents (en h4) hll fun s' w5 h5 => fin h5
  · refine cpBytes h2 (hbr h2) hd fun ds w3 h3 => ⟨hS 1 rfl rfl h3, ?_, ?_, trivial⟩
    · refine ldX (h3.up 1) 7 (x := p.log) ⟨hS 1 rfl rfl h3, ?_⟩
      refine prBs h3 (run_bsEn _ _) fun g w4 h4 => ⟨hS 2 rfl rfl h4, ?_⟩
      exact prApp et_ents (en h4) hll fun s' w5 h5 => fin h5
    · refine prBs h3 (run_bsEn _ _) fun g w4 h4 => ⟨hS 2 rfl rfl h4, ?_⟩
      refine ldX (h4.up 2) 7 (x := p.log) ⟨hS 2 rfl rfl h4, ?_⟩
      exact prApp et_ents (en h4) hll fun s' w5 h5 => fin h5
end
end Go.Proofs.Ytfbffgcoopelfaa
