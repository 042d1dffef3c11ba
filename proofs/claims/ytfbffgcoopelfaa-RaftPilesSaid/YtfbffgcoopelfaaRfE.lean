/- Layer 12: what a node wants done is taken. -/
import Derived.Test.YtfbffgcoopelfaaRfD
namespace Go.Proofs.Ytfbffgcoopelfaa
open Go Go.Pk
def zeroHd : Hd := ⟨0, 0, 0, 0, [], []⟩
def rdcells (save : Bool) (c : HdC) (ms : Sl) (restore : Bool) (rs cs : Sl) : List Value :=
  [.bool save, .int .i64 c.h.term, .int .i64 c.h.vote, .int .i64 c.h.base, .int .i64 c.h.bterm, c.ss.v, c.ls.v, ms.v, .bool restore, rs.v, cs.v]
theorem rdcells_ones (save : Bool) (c : HdC) (ms : Sl) (restore : Bool) (rs cs : Sl) : ∀ u ∈ rdcells save c ms restore rs cs, u.oneCell' = true := by
  intro u hu
  simp only [rdcells, List.mem_cons, List.not_mem_nil, or_false] at hu
  rcases hu with rfl | rfl | rfl | rfl | rfl | rfl | rfl | rfl | rfl | rfl | rfl <;> rfl
abbrev zReady : List Value := rdcells false ⟨zeroHd, ⟨none, 0, 0⟩, ⟨none, 0, 0⟩⟩ ⟨none, 0, 0⟩ false ⟨none, 0, 0⟩ ⟨none, 0, 0⟩
theorem tells_snoc (r : Rs) : ∀ (k : Nat) (t : Int), r.tells (k + 1) t = r.tells k t ++ r.tells 1 (t + k)
  | 0, t => by simp [Rs.tells]
  | k + 1, t => by
    have ih := tells_snoc r k (t + 1)
    rw [Rs.tells, ih]
    have e : t + 1 + (k : Int) = t + ((k + 1 : Nat) : Int) := by omega
    simp only [Rs.tells, List.cons_append, e]
section
variable {W w : World} {l : List Res} {K : Value → World → Prop} {b : Nat} {r : Rs}
abbrev rk (r : Rs) (k : Nat) : Rs := { r with told := r.told + k, commits := r.commits ++ r.tells k r.told }
theorem prBs {t T : TypeId} {a : Int} {ds : Sl} (h : Sat W w l) (hr : ∀ w, (Instr.buildSlice t 1 #[(0, .agg #[.int .i64 a, ds.v])]).run P w = .ok (.slice (some ⟨w.heap.size, 0, none⟩) 1 1) (w.alloc (.cells #[.int .i64 a, ds.v] T)))
    {K : Sl → World → Prop} (hK : ∀ g w', Sat W w' (Blk g [.int .i64 a, ds.v] T :: l) → K ⟨some ⟨g, 0, none⟩, 1, 1⟩ w') : RunK .sl P (Instr.buildSlice t 1 #[(0, .agg #[.int .i64 a, ds.v])]) w K :=
  bsB h (cs := [.int .i64 a, ds.v]) (e := T) hr hK
theorem prApp {t T : TypeId} (et : ET P t T 2 32) {s ds : Sl} {xs : List En} {a : Int} {d : List UInt8} {g : Nat} {ty : TypeId} (h : Sat W w (Blk g [.int .i64 a, ds.v] T :: BsR ds d :: PrR T s xs :: l)) (hn : xs.length < 2 ^ 41) {K : Sl → World → Prop}
    (hK : ∀ s' w', Sat W w' (PrR T s' (xs ++ [(a, d)]) :: l) → K s' w') : RunK .sl P (Builtin.append_ #[t, t] ty #[s.v, Sl.v ⟨some ⟨g, 0, none⟩, 1, 1⟩]) w K := by
  obtain ⟨es, rfl, h2⟩ := sat_pr.1 (h.up 2)
  have h3 : Sat W w (Blk g ((elP T).cells ⟨a, ds, d⟩) T :: (elP T).own ⟨a, ds, d⟩ :: OwnS (elP T) s es :: l) := (h2.up 2).up 2
  simp only [List.length_map] at hn
  exact own_push (E := elP T) (x := ⟨a, ds, d⟩) et rfl rfl (by decide) h3 (by omega) (by omega) fun s' w' h4 => hK s' w' (sat_pr.2 ⟨es ++ [⟨a, ds, d⟩], by simp, h4⟩)
/-- one entry more is told -/
theorem tell_step {k : Nat} {a0 : Nat} (h : Sat W w (RaR b (rk r k) :: Blk a0 zReady T_api_Ready :: l)) (hk : r.told + k < r.commit) (hb : 0 ≤ r.hd.base) (hbt : r.hd.base ≤ r.told) (hcl : r.commit ≤ r.last) (hc : r.commit < 4611690416473899008) (hs : Hd.Sm r.hd) (hcs : r.commits.length + k < 2 ^ 41)
    (htl : (r.tells k r.told).length = k) {N : World → Prop}
    (hN : ∀ w', Sat W w' (RaR b (rk r (k + 1)) :: Blk a0 zReady T_api_Ready :: l) → N w') :
    ∃ S11 : World → Prop, (S11 w) ∧
           HRun S11 .sl P (Instr.loadAt T_sl_api_Entry (.pointer (some (((⟨b, 0, none⟩ : Addr).add 2).add 5)))) fun (s13 : Sl) =>
             HRun S11 (.int .i64) P (Instr.loadAt T_int (.pointer (some ((⟨b, 0, none⟩ : Addr).add 11)))) fun (n15 : Int) =>
               HRun S11 (.int .i64) P (Instr.loadAt T_int (.pointer (some (((⟨b, 0, none⟩ : Addr).add 2).add 2)))) fun (n17 : Int) =>
                HRun S11 .addr P (Instr.indexAt T_sl_api_Entry s13.v (.int .i64 (IntKind.i64.wrap (n15 - n17)))) fun (a18 : Addr) =>
                HRun S11 .val P (Instr.loadAt T_api_Entry (.pointer (some a18))) fun (v19 : Value) =>
                RunK .addr P (Instr.alloc T_api_Entry true (.tuple #[])) w fun (a20 : Addr) w21 =>
                (S11 w21) ∧
                StoreP P T_api_Entry (.pointer (some a20)) v19 w21 fun w22 =>
                (S11 w22) ∧
                ∃ S23 : World → Prop, (S23 w22.drew) ∧
                HRun S23 (.int .i64) P (Instr.loadAt T_int (.pointer (some ((⟨b, 0, none⟩ : Addr).add 11)))) fun (n26 : Int) =>
                HRun S23 .sl P (Instr.loadAt T_sl_uint8 (.pointer (some (Go.Addr.add a20 1)))) fun (s27 : Sl) =>
                (RunQ .sl P (Instr.loadAt T_sl_api_Commit (.pointer (some (((⟨b, 0, none⟩ : Addr).add 17).add 10)))) w22.drew fun (s28 : Sl) =>
                (S23 w22.drew) ∧
                RunK .sl P (Builtin.append_ #[T_sl_uint8, T_sl_uint8] T_sl_uint8 #[(.slice none 0 0), s27.v]) w22.drew fun (s29 : Sl) w30 =>
                (S23 w30) ∧
                RunK .sl P (Instr.buildSlice T_sl_api_Commit 1 #[(0, (.agg #[(.int .i64 (IntKind.i64.wrap (n26 + 1))), s29.v]))]) w30 fun (s31 : Sl) w32 =>
                (S23 w32) ∧
                RunK .sl P (Builtin.append_ #[T_sl_api_Commit, T_sl_api_Commit] T_sl_api_Commit #[s28.v, s31.v]) w32 fun (s33 : Sl) w34 =>
                (S23 w34) ∧
                StoreP P T_sl_api_Commit (.pointer (some (((⟨b, 0, none⟩ : Addr).add 17).add 10))) s33.v w34 fun w36 =>
                (S23 w36) ∧
                RunQ (.int .i64) P (Instr.loadAt T_int (.pointer (some ((⟨b, 0, none⟩ : Addr).add 11)))) w36 fun (n38 : Int) =>
                StoreP P T_int (.pointer (some ((⟨b, 0, none⟩ : Addr).add 11))) (.int .i64 (IntKind.i64.wrap (n38 + 1))) w36 N) ∧
                (RunK .sl P (Builtin.append_ #[T_sl_uint8, T_sl_uint8] T_sl_uint8 #[(.slice none 0 0), s27.v]) w22.drew fun (s41 : Sl) w42 =>
                (S23 w42) ∧
                (RunQ .sl P (Instr.loadAt T_sl_api_Commit (.pointer (some (((⟨b, 0, none⟩ : Addr).add 17).add 10)))) w42 fun (s43 : Sl) =>
                (S23 w42) ∧
                RunK .sl P (Instr.buildSlice T_sl_api_Commit 1 #[(0, (.agg #[(.int .i64 (IntKind.i64.wrap (n26 + 1))), s41.v]))]) w42 fun (s44 : Sl) w45 =>
                (S23 w45) ∧
                RunK .sl P (Builtin.append_ #[T_sl_api_Commit, T_sl_api_Commit] T_sl_api_Commit #[s43.v, s44.v]) w45 fun (s46 : Sl) w47 =>
                (S23 w47) ∧
                StoreP P T_sl_api_Commit (.pointer (some (((⟨b, 0, none⟩ : Addr).add 17).add 10))) s46.v w47 fun w49 =>
                (S23 w49) ∧
                RunQ (.int .i64) P (Instr.loadAt T_int (.pointer (some ((⟨b, 0, none⟩ : Addr).add 11)))) w49 fun (n51 : Int) =>
                StoreP P T_int (.pointer (some ((⟨b, 0, none⟩ : Addr).add 11))) (.int .i64 (IntKind.i64.wrap (n51 + 1))) w49 N) ∧
                (RunK .sl P (Instr.buildSlice T_sl_api_Commit 1 #[(0, (.agg #[(.int .i64 (IntKind.i64.wrap (n26 + 1))), s41.v]))]) w42 fun (s54 : Sl) w55 =>
                (S23 w55) ∧
                RunQ .sl P (Instr.loadAt T_sl_api_Commit (.pointer (some (((⟨b, 0, none⟩ : Addr).add 17).add 10)))) w55 fun (s56 : Sl) =>
                (S23 w55) ∧
                RunK .sl P (Builtin.append_ #[T_sl_api_Commit, T_sl_api_Commit] T_sl_api_Commit #[s56.v, s54.v]) w55 fun (s57 : Sl) w58 =>
                (S23 w58) ∧
                StoreP P T_sl_api_Commit (.pointer (some (((⟨b, 0, none⟩ : Addr).add 17).add 10))) s57.v w58 fun w60 =>
                (S23 w60) ∧
                RunQ (.int .i64) P (Instr.loadAt T_int (.pointer (some ((⟨b, 0, none⟩ : Addr).add 11)))) w60 fun (n62 : Int) =>
                StoreP P T_int (.pointer (some ((⟨b, 0, none⟩ : Addr).add 11))) (.int .i64 (IntKind.i64.wrap (n62 + 1))) w60 N) ∧
                True) ∧
                True := by
  obtain ⟨p, h1⟩ := sat_ra.1 h
  obtain ⟨es, he, h2⟩ := sat_pr.1 (h1.up 2)
  have hel : es.length = r.hd.log.length := by rw [← he]; simp
  have hlast : r.last = r.hd.base + r.hd.log.length := rfl
  have hlog := own_len h2 (by decide : 0 < 2)
  let R : Rs := rk r k
  have h2 : Sat W w (OwnS (elP T_api_Entry) p.log es :: Blk b (rcells R p) T_raft_Raft :: BsR p.snap r.hd.snap :: VtR p.votes r.votes :: IsR p.next r.next :: IsR p.mtch r.mtch :: MsR p.msgs r.msgs :: BsR p.rsnap r.rsnap :: PrR T_api_Commit p.commits R.commits :: Blk a0 zReady T_api_Ready :: l) := h2
  let S : World → Prop := fun w => ∃ L, Sat W w (OwnS (elP T_api_Entry) p.log es :: Blk b (rcells R p) T_raft_Raft :: L)
  have hS : ∀ w, S w → ∃ L, Sat W w (Blk b (rcells R p) T_raft_Raft :: L) := fun w h => by obtain ⟨L, h⟩ := h; exact ⟨_, h.swap⟩
  have hSr : ∀ w, S w → RdC w p.log 2 ((elP T_api_Entry).flat es) := fun w h => by obtain ⟨L, h⟩ := h; exact (sat_own.1 h).rdc
  refine ⟨S, ⟨_, h2⟩, ?_⟩
  refine hldX hS 7 (x := p.log) ?_
  refine hldX hS 11 (x := R.told) ?_
  refine hldX hS 4 (x := r.hd.base) ?_
  have ht : R.told = r.told + k := rfl
  rw [w_i64 (n := R.told - r.hd.base) (by omega) (by omega)]
  have hlt : (R.told - r.hd.base).toNat < es.length := by omega
  have hx : es[(R.told - r.hd.base).toNat]? = some es[(R.told - r.hd.base).toNat] := List.getElem?_eq_getElem hlt
  generalize hE : es[(R.told - r.hd.base).toNat] = E at hx
  refine hixEl et_ents rfl hSr ⟨_, h2⟩ (by omega) hx (by omega) fun a ha => ?_
  refine hldAggC (cs := E.cells) ha ?_
  refine allocB h2 (z := .agg #[.int .i64 0, .slice none 0 0]) (by kernel_rfl) fun a20 w3 h3 => ⟨⟨_, (h3.up 2).up 2⟩, ?_⟩
  have h3 : Sat W w3 (Blk a20 [.int .i64 0, .slice none 0 0] T_api_Entry :: _) := h3
  refine stAggB (cs' := E.cells) h3 rfl ((elP T_api_Entry).one E) (by kernel_rfl) fun w4 h4 => ⟨⟨_, (h4.up 2).up 2⟩, ?_⟩
  have h5 := h4.drew
  let S2 : World → Prop := fun w => ∃ p' L, Sat W w (Blk a20 E.cells T_api_Entry :: Blk b (rcells R p') T_raft_Raft :: L)
  have hS21 : ∀ w, S2 w → ∃ L, Sat W w (Blk a20 E.cells T_api_Entry :: L) := fun w h => by obtain ⟨p', L, h⟩ := h; exact ⟨_, h⟩
  refine ⟨S2, ⟨p, _, (h5.up 2).up 1⟩, ?_⟩
  have ld11 : ∀ {K : Int → Prop}, K R.told → HRun S2 (.int .i64) P (Instr.loadAt T_int (.pointer (some ((⟨b, 0, none⟩ : Addr).add 11)))) K := fun hK =>
    ⟨R.told, fun w hw => by
      obtain ⟨p', L, h⟩ := hw
      exact run_load1 (by kernel_rfl) (Sat.cell (cs := rcells R p') h.swap 11), hK⟩
  refine ld11 ?_
  refine hldX hS21 1 (x := E.s) ?_
  rw [w_i64 (n := R.told + 1) (by omega) (by omega)]
  have hEm : E.dat ∈ r.hd.log := by rw [← he]; exact List.mem_map.2 ⟨E, List.mem_of_getElem? hx, rfl⟩
  have hEd : E.d.length ≤ 140737488355328 := hs.2.2 _ hEm
  have hEr : ∀ {l : List Res} {A : Res}, Rd W (A :: OwnS (elP T_api_Entry) p.log es :: l) E.s 1 (E.d.map vB) := Rd.cons (Rd.ownE hx fun l => Rd.own)
  have hcl2 : R.commits.length < 2 ^ 41 := by
    show (r.commits ++ r.tells k r.told).length < 2 ^ 41
    rw [List.length_append, htl]; omega
  have hT : r.tells 1 (r.told + k) = [(r.told + k + 1, E.d)] := by
    have e : r.hd.log[(r.told + (k : Int) - r.hd.base).toNat]? = some E.dat := by
      rw [← he, List.getElem?_map]
      have : (r.told + (k : Int) - r.hd.base).toNat = (R.told - r.hd.base).toNat := rfl
      rw [this, hx]; rfl
    simp only [Rs.tells, e]
  -- the end, alike on all ways
  have tl : ∀ {w : World} {s' : Sl}, Sat W w (PrR T_api_Commit s' (R.commits ++ [(R.told + 1, E.d)]) :: Blk a20 E.cells T_api_Entry :: OwnS (elP T_api_Entry) p.log es :: Blk b (rcells R p) T_raft_Raft :: BsR p.snap r.hd.snap :: VtR p.votes r.votes :: IsR p.next r.next :: IsR p.mtch r.mtch :: MsR p.msgs r.msgs :: BsR p.rsnap r.rsnap :: Blk a0 zReady T_api_Ready :: l) →
      S2 w ∧ StoreP P T_sl_api_Commit (.pointer (some (((⟨b, 0, none⟩ : Addr).add 17).add 10))) s'.v w fun w36 => (S2 w36) ∧
        RunQ (.int .i64) P (Instr.loadAt T_int (.pointer (some ((⟨b, 0, none⟩ : Addr).add 11)))) w36 fun (n38 : Int) =>
          StoreP P T_int (.pointer (some ((⟨b, 0, none⟩ : Addr).add 11))) (.int .i64 (IntKind.i64.wrap (n38 + 1))) w36 N := by
    intro w s' h6
    refine ⟨⟨p, _, (h6.up 3).up 2⟩, ?_⟩
    refine stX (h6.up 3) 27 (v := s'.v) (hi := (by show 27 < 28; decide)) fun w5 h7 => ?_
    have h7 : Sat W w5 (Blk b (rcells R { p with commits := s' }) T_raft_Raft :: PrR T_api_Commit s' (R.commits ++ [(R.told + 1, E.d)]) :: Blk a20 E.cells T_api_Entry :: OwnS (elP T_api_Entry) p.log es :: BsR p.snap r.hd.snap :: VtR p.votes r.votes :: IsR p.next r.next :: IsR p.mtch r.mtch :: MsR p.msgs r.msgs :: BsR p.rsnap r.rsnap :: Blk a0 zReady T_api_Ready :: l) := h7
    refine ⟨⟨_, _, h7.up 2⟩, ?_⟩
    refine ldX h7 11 (x := R.told) ?_
    rw [w_i64 (n := R.told + 1) (by omega) (by omega)]
    refine stX h7 11 (hi := (by show 11 < 28; decide)) fun w6 h8 => hN w6 (sat_ra.2 ⟨{ p with commits := s' }, ?_⟩)
    have eR : rk r (k + 1) = { R with told := R.told + 1, commits := R.commits ++ [(R.told + 1, E.d)] } := by
      simp only [R, rk, tells_snoc r k, hT, List.append_assoc]
      have : r.told + ((k + 1 : Nat) : Int) = r.told + k + 1 := by omega
      rw [this]
    rw [eR]
    have h9 := sat_pr.2 ⟨es, he, (h8.cut 2).up 2⟩
    exact ((h9.up 2).dn 8 |>.up 1 |>.up 2 |>.dn 1)
  have cp : ∀ {w : World} {L : List Res} {K : Sl → World → Prop}, Sat W w (Blk a20 E.cells T_api_Entry :: OwnS (elP T_api_Entry) p.log es :: L) → (∀ s w', Sat W w' (BsR s E.d :: Blk a20 E.cells T_api_Entry :: OwnS (elP T_api_Entry) p.log es :: L) → K s w') →
      RunK .sl P (Builtin.append_ #[T_sl_uint8, T_sl_uint8] T_sl_uint8 #[(.slice none 0 0), E.s.v]) w K := fun h hk => cpBytes h (hEr _ h) hEd hk
  refine ⟨?_, ?_, trivial⟩
  · refine ldX (h5.up 2) 27 (x := p.commits) ⟨⟨p, _, (h5.up 2).up 1⟩, ?_⟩
    refine cp h5 fun ds w5 h6 => ⟨⟨p, _, (h6.up 3).up 2⟩, ?_⟩
    refine prBs (h6) (run_bsCm _ _) fun g w6 h7 => ⟨⟨p, _, (h7.up 4).up 3⟩, ?_⟩
    exact prApp et_coms ((h7.up 11).up 2 |>.up 2) hcl2 fun s' w7 h8 => tl h8
  · refine cp h5 fun ds w5 h6 => ⟨⟨p, _, (h6.up 3).up 2⟩, ?_, ?_, trivial⟩
    · refine ldX (h6.up 3) 27 (x := p.commits) ⟨⟨p, _, (h6.up 3).up 2⟩, ?_⟩
      refine prBs (h6) (run_bsCm _ _) fun g w6 h7 => ⟨⟨p, _, (h7.up 4).up 3⟩, ?_⟩
      exact prApp et_coms ((h7.up 11).up 2 |>.up 2) hcl2 fun s' w7 h8 => tl h8
    · refine prBs (h6) (run_bsCm _ _) fun g w6 h7 => ⟨⟨p, _, (h7.up 4).up 3⟩, ?_⟩
      refine ldX (h7.up 4) 27 (x := p.commits) ⟨⟨p, _, (h7.up 4).up 3⟩, ?_⟩
      exact prApp et_coms ((h7.up 11).up 2 |>.up 2) hcl2 fun s' w7 h8 => tl h8
end
end Go.Proofs.Ytfbffgcoopelfaa
