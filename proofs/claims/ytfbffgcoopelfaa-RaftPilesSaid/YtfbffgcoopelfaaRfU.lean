/- Layer 12: entries come. -/
import Derived.Test.YtfbffgcoopelfaaRfT
namespace Go.Proofs.Ytfbffgcoopelfaa
open Go Go.Pk
def cutLog (q : Rs) (k : Nat) (e : En) : Rs := { q with hd := { q.hd with log := q.hd.log.take k ++ [e] }, save := true }
section
variable {W w : World} {l : List Res} {K : Value → World → Prop} {b : Nat} {r : Rs} {p : RsP}
/-- the log is cut, and an entry laid behind -/
theorem lay_step {q : Rs} {e : EnC} {a0 k : Nat} {I : Int} (h : Sat W w (RaR b q :: Blk a0 e.cells T_api_Entry :: BsR e.s e.d :: l)) (hI : I - q.hd.base - 1 = k) (hb : 0 ≤ q.hd.base ∧ q.hd.base < 4611686018427387904) (hk : k ≤ q.hd.log.length) (hl : q.hd.log.length < 2 ^ 40) {Kf : World → Prop}
    (hK : ∀ w', Sat W w' (RaR b (cutLog q k e.dat) :: Blk a0 e.cells T_api_Entry :: l) → Kf w') :
    ∃ S100 : World → Prop, (S100 w.drew) ∧
      nilCk (some ⟨b, 0, none⟩) fun (a101 : Addr) =>
      nilCk (some ⟨b, 0, none⟩) fun (a102 : Addr) =>
      HRun S100 (.int .i64) P (Instr.loadAt T_int (.pointer (some ((a102.add 2).add 2)))) fun (n103 : Int) =>
      HRun S100 .val P (Instr.loadAt T_api_Entry (.pointer (some ⟨a0, 0, none⟩))) fun (v104 : Value) =>
      (RunQ .sl P (Instr.loadAt T_sl_api_Entry (.pointer (some ((a101.add 2).add 5)))) w.drew fun (s105 : Sl) =>
      (S100 w.drew) ∧
      HRun S100 .sl P (Instr.sliceAt T_sl_api_Entry s105.v none (some (.int .i64 (IntKind.i64.wrap (IntKind.i64.wrap (I - n103) - 1)))) none) fun (s106 : Sl) =>
      RunK .sl P (Instr.buildSlice T_sl_api_Entry 1 #[(0, v104)]) w.drew fun (s107 : Sl) w108 =>
      (S100 w108) ∧
      RunK .sl P (Builtin.append_ #[T_sl_api_Entry, T_sl_api_Entry] T_sl_api_Entry #[s106.v, s107.v]) w108 fun (s109 : Sl) w110 =>
      (S100 w110) ∧
      nilCk (some ⟨b, 0, none⟩) fun (a111 : Addr) =>
      StoreP P T_sl_api_Entry (.pointer (some ((a111.add 2).add 5))) s109.v w110 fun w112 =>
      (S100 w112) ∧
      nilCk (some ⟨b, 0, none⟩) fun (a113 : Addr) =>
      StoreP P T_bool (.pointer (some ((a113.add 17).add 0))) (.bool true) w112 fun w114 =>
      Kf w114) ∧
      (RunK .sl P (Instr.buildSlice T_sl_api_Entry 1 #[(0, v104)]) w.drew fun (s115 : Sl) w116 =>
      (S100 w116) ∧
      RunQ .sl P (Instr.loadAt T_sl_api_Entry (.pointer (some ((a101.add 2).add 5)))) w116 fun (s117 : Sl) =>
      (S100 w116) ∧
      HRun S100 .sl P (Instr.sliceAt T_sl_api_Entry s117.v none (some (.int .i64 (IntKind.i64.wrap (IntKind.i64.wrap (I - n103) - 1)))) none) fun (s118 : Sl) =>
      RunK .sl P (Builtin.append_ #[T_sl_api_Entry, T_sl_api_Entry] T_sl_api_Entry #[s118.v, s115.v]) w116 fun (s119 : Sl) w120 =>
      (S100 w120) ∧
      nilCk (some ⟨b, 0, none⟩) fun (a121 : Addr) =>
      StoreP P T_sl_api_Entry (.pointer (some ((a121.add 2).add 5))) s119.v w120 fun w122 =>
      (S100 w122) ∧
      nilCk (some ⟨b, 0, none⟩) fun (a123 : Addr) =>
      StoreP P T_bool (.pointer (some ((a123.add 17).add 0))) (.bool true) w122 fun w124 =>
      Kf w124) ∧
      True := by
  obtain ⟨p, h1⟩ := sat_ra.1 h.drew
  have hpl := ra_log h1
  let S : World → Prop := fun w => ∃ r' p', (∃ L, Sat W w (Blk b (rcells r' p') T_raft_Raft :: L)) ∧ r'.hd.base = q.hd.base ∧ ∃ L, Sat W w (Blk a0 e.cells T_api_Entry :: L)
  refine ⟨S, ⟨q, p, ⟨_, h1⟩, rfl, _, h1.up 9⟩, ?_⟩
  refine ⟨q.hd.base, fun w hw => ?_, ?_⟩
  · obtain ⟨r', p', ⟨L, hp⟩, e1, _⟩ := hw
    have hc : w.cell? ⟨b, 4, none⟩ = some (Value.int .i64 q.hd.base) := by
      rw [Sat.cell (cs := rcells r' p') hp 4, ← e1]
      rfl
    exact run_load1 (t := T_int) (a := ⟨b, 4, none⟩) (by kernel_rfl) hc
  refine hldAggX 0 2 (fun w hw => by obtain ⟨_, _, _, _, hq⟩ := hw; exact hq) ?_ (by show 0 + 2 ≤ 2; decide)
  rw [w_i64 (n := I - q.hd.base) (by omega) (by omega), w_i64 (n := I - q.hd.base - 1) (by omega) (by omega), hI]
  obtain ⟨es, he, h2⟩ := sat_pr.1 (h1.up 2)
  have hel : es.length = q.hd.log.length := by rw [← he]; simp
  have hcap := own_len h2 (by decide : 0 < 2)
  have bs : ∀ {w : World} {L : List Res} {K : Sl → World → Prop}, Sat W w L → (∀ g w', Sat W w' (Blk g ((elP T_api_Entry).cells e) T_api_Entry :: L) → K ⟨some ⟨g, 0, none⟩, 1, 1⟩ w') → RunK .sl P (Instr.buildSlice T_sl_api_Entry 1 #[(0, .agg (((e.cells.drop 0).take 2).toArray))]) w K :=
    fun h hk => bsB h (cs := e.cells) (e := T_api_Entry) (fun w => by kernel_rfl) hk
  have fin : ∀ {w : World} {g : Nat}, Sat W w (Blk g ((elP T_api_Entry).cells e) T_api_Entry :: OwnS (elP T_api_Entry) p.log es :: Blk b (rcells q p) T_raft_Raft :: BsR p.snap q.hd.snap :: VtR p.votes q.votes :: IsR p.next q.next :: IsR p.mtch q.mtch :: MsR p.msgs q.msgs :: BsR p.rsnap q.rsnap :: PrR T_api_Commit p.commits q.commits :: Blk a0 e.cells T_api_Entry :: BsR e.s e.d :: l) →
      RunK .sl P (Builtin.append_ #[T_sl_api_Entry, T_sl_api_Entry] T_sl_api_Entry #[(Sl.v ⟨p.log.a, k, p.log.cap⟩), (Sl.v ⟨some ⟨g, 0, none⟩, 1, 1⟩)]) w fun (s119 : Sl) w120 =>
      (S w120) ∧
      nilCk (some ⟨b, 0, none⟩) fun (a121 : Addr) =>
      StoreP P T_sl_api_Entry (.pointer (some ((a121.add 2).add 5))) s119.v w120 fun w122 =>
      (S w122) ∧
      nilCk (some ⟨b, 0, none⟩) fun (a123 : Addr) =>
      StoreP P T_bool (.pointer (some ((a123.add 17).add 0))) (.bool true) w122 fun w124 =>
      Kf w124 := by
    intro w g h3
    have h4' := own_take h3.swap (k := k) (by omega)
    have h5 : Sat W w (Blk g ((elP T_api_Entry).cells e) T_api_Entry :: BsR e.s e.d :: OwnS (elP T_api_Entry) ⟨p.log.a, k, p.log.cap⟩ (es.take k) :: Blk b (rcells q p) T_raft_Raft :: BsR p.snap q.hd.snap :: VtR p.votes q.votes :: IsR p.next q.next :: IsR p.mtch q.mtch :: MsR p.msgs q.msgs :: BsR p.rsnap q.rsnap :: PrR T_api_Commit p.commits q.commits :: Blk a0 e.cells T_api_Entry :: l) := h4'.sel 12 [1, 11, 0, 2, 3, 4, 5, 6, 7, 8, 9, 10]
    refine own_push (E := elP T_api_Entry) (x := e) et_ents rfl rfl (by decide) h5 (by rw [List.length_take]; omega) (by rw [List.length_take]; omega) fun s' w2 h6 => ⟨⟨q, p, ⟨_, h6.up 1⟩, rfl, _, h6.up 9⟩, ?_⟩
    refine stX (h6.up 1) 7 (v := s'.v) (hi := (by show 7 < 28; decide)) fun w3 h7 => ?_
    let pC : RsP := { p with log := s' }
    let qC : Rs := { q with hd := { q.hd with log := q.hd.log.take k ++ [e.dat] } }
    have h8 : Sat W w3 (Blk b (rcells qC pC) T_raft_Raft :: OwnS (elP T_api_Entry) s' (es.take k ++ [e]) :: BsR p.snap q.hd.snap :: VtR p.votes q.votes :: IsR p.next q.next :: IsR p.mtch q.mtch :: MsR p.msgs q.msgs :: BsR p.rsnap q.rsnap :: PrR T_api_Commit p.commits q.commits :: Blk a0 e.cells T_api_Entry :: l) := h7
    refine ⟨⟨qC, pC, ⟨_, h8⟩, rfl, _, h8.up 9⟩, ?_⟩
    refine stX h8 17 (hi := (by show 17 < 28; decide)) fun w4 h9 => hK w4 ?_
    have ee : (es.take k ++ [e]).map EnC.dat = q.hd.log.take k ++ [e.dat] := by rw [List.map_append, List.map_take, he]; rfl
    have h10 : Sat W w4 (PrR T_api_Entry s' (q.hd.log.take k ++ [e.dat]) :: _) := sat_pr.2 ⟨_, ee, h9.up 1⟩
    exact sat_ra.2 ⟨pC, h10.sel 3 [1, 2, 0]⟩
  have sl : ∀ {K : Sl → Prop}, K ⟨p.log.a, k, p.log.cap⟩ → HRun S .sl P (Instr.sliceAt T_sl_api_Entry p.log.v none (some (.int .i64 (k : Int))) none) K := fun {K} hk' =>
    ⟨⟨p.log.a, k, p.log.cap⟩, fun w' _ => run_sliceHi (s := p.log) (hi := (k : Int)) et_ents (by omega) (by omega) w', hk'⟩
  refine ⟨?_, ?_, trivial⟩
  · refine ldX h1 7 (x := p.log) ⟨⟨q, p, ⟨_, h1⟩, rfl, _, h1.up 9⟩, ?_⟩
    refine sl ?_
    refine bs h2 fun g w2 h3 => ⟨⟨q, p, ⟨_, h3.up 2⟩, rfl, _, h3.up 10⟩, fin h3⟩
  · refine bs h2 fun g w2 h3 => ⟨⟨q, p, ⟨_, h3.up 2⟩, rfl, _, h3.up 10⟩, ?_⟩
    have h3b : Sat W w2 (Blk b (rcells q p) T_raft_Raft :: _) := h3.up 2
    refine ldX h3b 7 (x := p.log) ⟨⟨q, p, ⟨_, h3b⟩, rfl, _, h3.up 10⟩, ?_⟩
    refine sl ?_
    exact fin h3
end
end Go.Proofs.Ytfbffgcoopelfaa
