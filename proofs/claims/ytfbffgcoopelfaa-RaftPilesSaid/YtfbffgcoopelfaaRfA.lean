/- Layer 12: a node in memory. -/
import Derived.Test.YtfbffgcoopelfaaQR
import Derived.Test.YtfbffgcoopelfaaE2
import Derived.Test.YtfbffgcoopelfaaN
namespace Go.Proofs.Ytfbffgcoopelfaa
open Go Go.Pk
theorem et_bytes : ET P T_sl_uint8 T_uint8 1 1 := ET.of (by kernel_rfl)
theorem et_ints : ET P T_sl_int T_int 1 8 := ET.of (by kernel_rfl)
theorem et_ents : ET P T_sl_api_Entry T_api_Entry 2 32 := ET.of (by kernel_rfl)
theorem et_coms : ET P T_sl_api_Commit T_api_Commit 2 32 := ET.of (by kernel_rfl)
theorem et_msgs : ET P T_sl_api_RMsg T_api_RMsg 10 112 := ET.of (by kernel_rfl)
abbrev BsR (s : Sl) (l : List UInt8) : Res := SlR T_uint8 1 s (l.map vB)
abbrev IsR (s : Sl) (l : List Int) : Res := SlR T_int 1 s (l.map vI)
/-- a number and bytes -/
structure EnC where
  t : Int
  s : Sl
  d : List UInt8
abbrev EnC.dat (e : EnC) : En := (e.t, e.d)
def EnC.cells (e : EnC) : List Value := [.int .i64 e.t, e.s.v]
def elP (T : TypeId) : El EnC := ⟨T, 2, EnC.cells, fun e => BsR e.s e.d, fun _ => rfl, fun _ u hu => by
  simp only [EnC.cells, List.mem_cons, List.not_mem_nil, or_false] at hu
  rcases hu with rfl | rfl <;> rfl⟩
/-- pairs of one's own -/
def PrR (T : TypeId) (s : Sl) (xs : List En) : Res := Ex fun es : List EnC => All [Pure (es.map EnC.dat = xs), OwnS (elP T) s es]
structure MgC where
  kind : Int
  frm : Int
  to : Int
  term : Int
  index : Int
  lterm : Int
  commit : Int
  rej : Bool
  es : Sl
  ents : List En
  ss : Sl
  snap : List UInt8
def MgC.dat (m : MgC) : Mg := ⟨m.kind, m.frm, m.to, m.term, m.index, m.lterm, m.commit, m.rej, m.ents, m.snap⟩
def MgC.cells (m : MgC) : List Value := [.int .i64 m.kind, .int .i64 m.frm, .int .i64 m.to, .int .i64 m.term, .int .i64 m.index, .int .i64 m.lterm, .int .i64 m.commit, .bool m.rej, m.es.v, m.ss.v]
def elM : El MgC := ⟨T_api_RMsg, 10, MgC.cells, fun m => All [PrR T_api_Entry m.es m.ents, BsR m.ss m.snap], fun _ => rfl, fun _ u hu => by
  simp only [MgC.cells, List.mem_cons, List.not_mem_nil, or_false] at hu
  rcases hu with rfl | rfl | rfl | rfl | rfl | rfl | rfl | rfl | rfl | rfl <;> rfl⟩
/-- messages of one's own -/
def MsR (s : Sl) (ms : List Mg) : Res := Ex fun cs : List MgC => All [Pure (cs.map MgC.dat = ms), OwnS elM s cs]
def VtR (p : Option Nat) (v : Option (List (Int × Bool))) : Res := match p, v with
  | some r, some v => MpR .i64 r (v.map fun x => (x.1, .bool x.2))
  | none, none => Pure True
  | _, _ => Pure False
/-- the parts of a node that lie elsewhere -/
structure RsP where
  snap : Sl
  log : Sl
  votes : Option Nat
  next : Sl
  mtch : Sl
  msgs : Sl
  rsnap : Sl
  commits : Sl
def rcells (r : Rs) (p : RsP) : List Value :=
  [.int .i64 r.id, .int .i64 r.n, .int .i64 r.hd.term, .int .i64 r.hd.vote, .int .i64 r.hd.base, .int .i64 r.hd.bterm, p.snap.v, p.log.v, .int .i64 r.role, .int .i64 r.leader, .int .i64 r.commit, .int .i64 r.told,
   .int .i64 r.ticks, .int .i64 r.limit, .map p.votes, p.next.v, p.mtch.v, .bool r.save, .int .i64 0, .int .i64 0, .int .i64 0, .int .i64 0, .slice none 0 0, .slice none 0 0, p.msgs.v, .bool r.restore, p.rsnap.v, p.commits.v]
/-- a node in memory, opened -/
def RsO (b : Nat) (r : Rs) (p : RsP) : List Res := [Blk b (rcells r p) T_raft_Raft, BsR p.snap r.hd.snap, PrR T_api_Entry p.log r.hd.log, VtR p.votes r.votes, IsR p.next r.next, IsR p.mtch r.mtch, MsR p.msgs r.msgs, BsR p.rsnap r.rsnap, PrR T_api_Commit p.commits r.commits]
def RaR (b : Nat) (r : Rs) : Res := Ex fun p : RsP => All (RsO b r p)
section
variable {W w : World} {l : List Res}
theorem sat_ra {b : Nat} {r : Rs} : Sat W w (RaR b r :: l) ↔ ∃ p, Sat W w (Blk b (rcells r p) T_raft_Raft :: BsR p.snap r.hd.snap :: PrR T_api_Entry p.log r.hd.log :: VtR p.votes r.votes :: IsR p.next r.next :: IsR p.mtch r.mtch :: MsR p.msgs r.msgs :: BsR p.rsnap r.rsnap :: PrR T_api_Commit p.commits r.commits :: l) := by
  unfold RaR
  rw [sat_ex]
  constructor
  · rintro ⟨p, h⟩; exact ⟨p, sat_all.1 h⟩
  · rintro ⟨p, h⟩; exact ⟨p, sat_all.2 h⟩
/-- a node in memory, opened, ahead of other parts -/
abbrev RaL (b : Nat) (r : Rs) (p : RsP) (l : List Res) : List Res := Blk b (rcells r p) T_raft_Raft :: BsR p.snap r.hd.snap :: PrR T_api_Entry p.log r.hd.log :: VtR p.votes r.votes :: IsR p.next r.next :: IsR p.mtch r.mtch :: MsR p.msgs r.msgs :: BsR p.rsnap r.rsnap :: PrR T_api_Commit p.commits r.commits :: l
theorem sat_pr {T : TypeId} {s : Sl} {xs : List En} : Sat W w (PrR T s xs :: l) ↔ ∃ es : List EnC, es.map EnC.dat = xs ∧ Sat W w (OwnS (elP T) s es :: l) := by
  unfold PrR
  rw [sat_ex]
  constructor
  · rintro ⟨es, h⟩
    obtain ⟨h1, h2⟩ := sat_pure.1 (sat_all.1 h)
    exact ⟨es, h1, h2⟩
  · rintro ⟨es, h1, h2⟩
    exact ⟨es, sat_all.2 (sat_pure.2 ⟨h1, h2⟩)⟩
theorem sat_ms {s : Sl} {ms : List Mg} : Sat W w (MsR s ms :: l) ↔ ∃ cs : List MgC, cs.map MgC.dat = ms ∧ Sat W w (OwnS elM s cs :: l) := by
  unfold MsR
  rw [sat_ex]
  constructor
  · rintro ⟨es, h⟩
    obtain ⟨h1, h2⟩ := sat_pure.1 (sat_all.1 h)
    exact ⟨es, h1, h2⟩
  · rintro ⟨es, h1, h2⟩
    exact ⟨es, sat_all.2 (sat_pure.2 ⟨h1, h2⟩)⟩
theorem Sat.bsLen {s : Sl} {o : List UInt8} (h : Sat W w (BsR s o :: l)) : o.length = s.len ∧ s.len < 2 ^ 63 := by
  have h1 := h.slLen
  simp at h1
  omega
theorem Sat.isLen {s : Sl} {o : List Int} (h : Sat W w (IsR s o :: l)) : o.length = s.len ∧ s.len < 2 ^ 63 := by
  have h1 := h.slLen
  simp at h1
  omega
theorem Sat.prLen {T : TypeId} {s : Sl} {o : List En} (h : Sat W w (PrR T s o :: l)) : o.length = s.len ∧ s.len < 2 ^ 63 := by
  obtain ⟨es, rfl, h1⟩ := sat_pr.1 h
  have := own_len h1 (by decide : 0 < 2)
  simp
  omega
end
end Go.Proofs.Ytfbffgcoopelfaa
