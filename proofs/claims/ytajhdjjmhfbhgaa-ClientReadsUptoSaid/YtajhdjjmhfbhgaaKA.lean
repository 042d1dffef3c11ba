/- Layer 19: a client in memory. -/
import Derived.Test.YtajhdjjmhfbhgaaE2
import Derived.Test.YtajhdjjmhfbhgaaN
import Derived.Laws.MakeOwn
namespace Go.Proofs.Ytajhdjjmhfbhgaa
open Go Go.Pk
theorem et_bytes : ET P T_sl_uint8 T_uint8 1 1 := ET.of (by kernel_rfl)
theorem et_ints : ET P T_sl_int T_int 1 8 := ET.of (by kernel_rfl)
theorem et_ops : ET P T_sl_api_Op T_api_Op 5 48 := ET.of (by kernel_rfl)
theorem et_seen : ET P T_sl_api_Seen T_api_Seen 7 64 := ET.of (by kernel_rfl)
theorem et_progs : ET P T_sl_api_Program T_api_Program 2 32 := ET.of (by kernel_rfl)
theorem et_msgs : ET P T_sl_api_Msg T_api_Msg 59 584 := ET.of (by kernel_rfl)
abbrev BsR (s : Sl) (l : List UInt8) : Res := SlR T_uint8 1 s (l.map vB)
abbrev IsR (s : Sl) (l : List Int) : Res := SlR T_int 1 s (l.map vI)
/-- an operation -/
structure Oc where
  kind : Int
  part : Int
  to : Int
  count : Int
  value : ByteArray
def Oc.cells (o : Oc) : List Value := [.int .i64 o.kind, .int .i64 o.part, .int .i64 o.to, .int .i64 o.count, .string o.value]
def elO : El Oc := ⟨T_api_Op, 5, Oc.cells, fun _ => Pure True, fun _ => rfl, fun _ u hu => by
  simp only [Oc.cells, List.mem_cons, List.not_mem_nil, or_false] at hu
  rcases hu with rfl | rfl | rfl | rfl | rfl <;> rfl⟩
/-- what is seen -/
structure Sn where
  kind : Int
  client : Int
  op : Int
  part : Int
  offset : Int
  value : ByteArray
  e : Int
def Sn.cells (s : Sn) : List Value := [.int .i64 s.kind, .int .i64 s.client, .int .i64 s.op, .int .i64 s.part, .int .i64 s.offset, .string s.value, .int .i64 s.e]
def elS : El Sn := ⟨T_api_Seen, 7, Sn.cells, fun _ => Pure True, fun _ => rfl, fun _ u hu => by
  simp only [Sn.cells, List.mem_cons, List.not_mem_nil, or_false] at hu
  rcases hu with rfl | rfl | rfl | rfl | rfl | rfl | rfl <;> rfl⟩
/-- a program, and settings -/
structure Pr where
  group : Int
  os : Sl
  ol : List Oc
def Pr.cells (p : Pr) : List Value := [.int .i64 p.group, p.os.v]
def elP : El Pr := ⟨T_api_Program, 2, Pr.cells, fun _ => Pure True, fun _ => rfl, fun _ u hu => by
  simp only [Pr.cells, List.mem_cons, List.not_mem_nil, or_false] at hu
  rcases hu with rfl | rfl <;> rfl⟩
structure Cf where
  nodes : Int
  parts : Int
  copies : Int
  cs : Sl
  cl : List Pr
def Cf.cells (c : Cf) : List Value := [.int .i64 c.nodes, .int .i64 c.parts, .int .i64 c.copies, c.cs.v]
theorem Oc.ones (o : Oc) : ∀ u ∈ o.cells, u.oneCell' = true := elO.one o
theorem Sn.ones (o : Sn) : ∀ u ∈ o.cells, u.oneCell' = true := elS.one o
theorem Pr.ones (o : Pr) : ∀ u ∈ o.cells, u.oneCell' = true := elP.one o
/-- what a client asks -/
structure Aq where
  kind : Int
  frm : Int
  to : Int
  corr : Int
  bp : Int
  be : Int
  bs : Int
  bt : Bool
  vals : List (List UInt8)
  part : Int
  offset : Int
  tx : Int
  inc : Int
  pid : Int
  epoch : Int
  commit : Bool
  group : Int
  gen : Int
  member : Int
def zAq : Aq := ⟨0, 0, 0, 0, 0, 0, 0, false, [], 0, 0, 0, 0, 0, 0, false, 0, 0, 0⟩
def Aq.cells (a : Aq) (vs : Sl) : List Value := [.int .i64 a.kind, .int .i64 a.frm, .int .i64 a.to, .int .i64 a.corr, .int .i64 0,
  .int .i64 0, .int .i64 0, .int .i64 0, .int .i64 0, .int .i64 0, .int .i64 0, .int .i64 0, .bool false, .slice none 0 0, .slice none 0 0, .int .i64 0, .int .i64 0, .int .i64 0, .int .i64 0, .int .i64 0, .int .i64 0, .int .i64 0, .int .i64 0, .int .i64 0, .bool false, .int .i64 0, .int .i64 0, .int .i64 0, .int .i64 0, .slice none 0 0, .int .i64 0, .int .i64 0, .int .i64 0, .int .i64 0, .int .i64 0, .slice none 0 0,
  .int .i64 0, .int .i64 0, .int .u64 a.bp, .int .i64 a.be, .int .i64 a.bs, .bool a.bt, .bool false, .bool false, vs.v,
  .int .i64 a.part, .int .i64 a.offset, .int .i64 a.tx, .int .i64 a.inc, .int .u64 a.pid, .int .i64 a.epoch, .bool a.commit, .int .i64 a.group, .int .i64 a.gen, .int .i64 a.member, .slice none 0 0, .slice none 0 0, .slice none 0 0, .int .i64 0]
theorem Aq.len (a : Aq) (vs : Sl) : (a.cells vs).length = 59 := rfl
theorem Aq.ones (a : Aq) (vs : Sl) : ∀ u ∈ a.cells vs, u.oneCell' = true := by
  intro u hu
  have h : (a.cells vs).all (fun u => u.oneCell') = true := rfl
  exact List.all_eq_true.1 h u hu
/-- a client -/
structure Cl where
  id : Int
  number : Int
  nodes : Int
  parts : Int
  copies : Int
  ops : List Oc
  group : Int
  op : Int
  done : Bool
  inc : Int
  targets : List Int
  corr : Int
  asked : Aq
  waits : Bool
  age : Int
  busy : Bool
  out : Option Int
  seen : List Sn
  ready : Bool
  pid : Int
  epoch : Int
  begin : Int
  opn : Int
  added : List Int
  next : List Int
  joined : Bool
  gen : Int
  mine : List Int
  att : List Int
  sure : List Int
  turn : Int
  dry : Int
  count : Int
  offset : Int
  values : List ByteArray
  step : Int
/-- the parts of a client that lie elsewhere -/
structure ClP where
  cs : Sl
  ops : Sl
  targets : Sl
  vs : Sl
  vl : List (Sl × List UInt8)
  out : Sl
  seen : Sl
  added : Sl
  next : Sl
  mine : Sl
  att : Sl
  sure : Sl
  values : Sl
def ccells (c : Cl) (p : ClP) : List Value :=
  [.int .i64 c.id, .int .i64 c.number, .int .i64 c.nodes, .int .i64 c.parts, .int .i64 c.copies, p.cs.v, p.ops.v, .int .i64 c.group, .int .i64 c.op, .bool c.done, .int .i64 c.inc, p.targets.v, .int .i64 c.corr] ++ (c.asked.cells p.vs ++
  [.bool c.waits, .int .i64 c.age, .bool c.busy, p.out.v, p.seen.v, .bool c.ready, .int .u64 c.pid, .int .i64 c.epoch, .int .i64 c.begin, .int .i64 c.opn, p.added.v, p.next.v,
   .bool c.joined, .int .i64 c.gen, p.mine.v, p.att.v, p.sure.v, .int .i64 c.turn, .int .i64 c.dry, .int .i64 c.count, .int .i64 c.offset, p.values.v, .int .i64 c.step])
@[simp] theorem ccells_len (c : Cl) (p : ClP) : (ccells c p).length = 95 := rfl
def elV : El (Sl × List UInt8) := ⟨T_sl_uint8, 1, fun x => [x.1.v], fun x => BsR x.1 x.2, fun _ => rfl, fun _ u hu => by
  simp only [List.mem_cons, List.not_mem_nil, or_false] at hu
  rcases hu with rfl; rfl⟩
def vT (b : ByteArray) : Value := .string b
/-- the message that is to be sent, if there is one -/
def outL (c : Cl) (vs : Sl) : List Value := match c.out with
  | none => []
  | some to => ({ c.asked with to := to } : Aq).cells vs
abbrev ClR (b : Nat) (c : Cl) (p : ClP) : List Res := [Blk b (ccells c p) T_client_Client, SlR T_api_Op 5 p.ops (elO.flat c.ops), IsR p.targets c.targets, Pure (p.vl.map Prod.snd = c.asked.vals), OwnS elV p.vs p.vl, SlR T_api_Msg 59 p.out (outL c p.vs),
  SlR T_api_Seen 7 p.seen (elS.flat c.seen), IsR p.added c.added, IsR p.next c.next, IsR p.mine c.mine, IsR p.att c.att, IsR p.sure c.sure, SlR T_string 1 p.values (c.values.map vT)]
/-- a client in memory -/
def ClM (b : Nat) (c : Cl) : Res := Ex fun p : ClP => All (ClR b c p)
section
variable {W w : World} {l : List Res}
abbrev ClL (b : Nat) (c : Cl) (p : ClP) (l : List Res) : List Res := Blk b (ccells c p) T_client_Client :: SlR T_api_Op 5 p.ops (elO.flat c.ops) :: IsR p.targets c.targets :: Pure (p.vl.map Prod.snd = c.asked.vals) :: OwnS elV p.vs p.vl :: SlR T_api_Msg 59 p.out (outL c p.vs) ::
  SlR T_api_Seen 7 p.seen (elS.flat c.seen) :: IsR p.added c.added :: IsR p.next c.next :: IsR p.mine c.mine :: IsR p.att c.att :: IsR p.sure c.sure :: SlR T_string 1 p.values (c.values.map vT) :: l
theorem sat_cl {b : Nat} {c : Cl} : Sat W w (ClM b c :: l) ↔ ∃ p, Sat W w (ClL b c p l) := by
  unfold ClM
  rw [sat_ex]
  constructor
  · rintro ⟨p, h⟩; exact ⟨p, sat_all.1 h⟩
  · rintro ⟨p, h⟩; exact ⟨p, sat_all.2 h⟩
theorem Sat.bsLen {s : Sl} {o : List UInt8} (h : Sat W w (BsR s o :: l)) : o.length = s.len ∧ s.len < 2 ^ 63 := by
  have h1 := h.slLen
  simp at h1
  omega
theorem Sat.isLen {s : Sl} {o : List Int} (h : Sat W w (IsR s o :: l)) : o.length = s.len ∧ s.len < 2 ^ 63 := by
  have h1 := h.slLen
  simp at h1
  omega
end
end Go.Proofs.Ytajhdjjmhfbhgaa
