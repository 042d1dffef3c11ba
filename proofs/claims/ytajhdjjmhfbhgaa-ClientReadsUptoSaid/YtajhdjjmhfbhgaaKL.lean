/- Layer 19 in plain Lean: what a client does. -/
import Derived.Test.YtajhdjjmhfbhgaaKH
namespace Go.Proofs.Ytajhdjjmhfbhgaa
open Go Go.Pk
/-- a batch, an abort, an answer -/
structure Bt where
  base : Int
  ep : Int
  pid : Int
  pe : Int
  seq : Int
  txn : Bool
  control : Bool
  commit : Bool
  vs : Sl
  ss : List Sl
  bs : List (List UInt8)
structure Ao where
  pid : Int
  first : Int
  last : Int
structure Rp where
  kind : Int
  corr : Int
  er : Int
  offset : Int
  inc : Int
  pid : Int
  epoch : Int
  commit : Bool
  gen : Int
  ms : Sl
  mi : List Int
  bs : Sl
  bl : List Bt
  av : Sl
  al : List Ao
  high : Int
def nx (n : Int) : Int := IntKind.i64.wrap (n + 1)
def str (b : List UInt8) : ByteArray := ⟨b.toArray⟩
def geti (l : List Int) (k : Int) : Int := l.getD k.toNat 0
def seti (l : List Int) (k v : Int) : List Int := l.set k.toNat v
def Cl.settle (c : Cl) (ps : List Int) : Cl × Bool :=
  if c.joined = false then (c.ask { zAq with kind := 11 }, false) else match ps.find? fun k => decide (geti c.att k < 0) with
  | some k => (c.ask { zAq with kind := 14, part := k }, false)
  | none => (c, true)
def Cl.prepare (c : Cl) (part : Int) : Cl × Bool :=
  if c.ready = false then (c.ask qInit, false) else if part ∈ c.added then (c, true) else
    ((if c.opn < 0 then { c with opn := c.epoch, begin := c.op } else c : Cl).ask { zAq with kind := 8, pid := c.pid, epoch := c.epoch, offset := part }, false)
def Cl.send (c : Cl) (part : Int) (vals : List ByteArray) : Cl :=
  if (c.prepare part).2 = false then (c.prepare part).1 else c.ask { zAq with kind := 5, part := part, bp := c.pid, be := c.epoch, bs := geti c.next part, bt := true, vals := vals.map fun v => v.data.toList }
def Cl.endT (c : Cl) (commit : Bool) : Cl := if c.opn < 0 then c.ended commit else c.ask { zAq with kind := 9, pid := c.pid, epoch := c.opn, commit := commit }
def Cl.poll (c : Cl) (o : Oc) : Cl :=
  if (c.settle c.mine).2 = false then (c.settle c.mine).1
  else if c.step = 0 ∧ c.count < o.count ∧ c.dry < c.mine.length then
    c.ask { zAq with kind := 6, part := geti c.mine (c.turn.tmod c.mine.length), offset := geti c.att (geti c.mine (c.turn.tmod c.mine.length)) }
  else match c.mine.find? fun k => decide (geti c.att k > geti c.sure k) with
  | some k => (if c.step = 0 then { c with step := 1 } else c : Cl).ask { zAq with kind := 12, gen := c.gen, part := k, offset := geti c.att k }
  | none => { c with step := 0, count := 0, dry := 0, op := nx c.op }
def Cl.copy (c : Cl) (o : Oc) : Cl :=
  if c.opn ≥ 0 ∧ c.begin ≠ c.op then { c.tell { zSn with kind := 4, e := 5 } with op := nx c.op }
  else if c.step = 0 ∧ c.joined = false then (c.settle []).1
  else if o.part ∉ c.mine then { c with step := 0, op := nx c.op }
  else if c.step = 0 then
    if (c.settle [o.part]).2 = false then (c.settle [o.part]).1 else c.ask { zAq with kind := 6, part := o.part, offset := geti c.att o.part }
  else if c.step = 1 then
    if (c.prepare (nx c.parts)).2 = false then (c.prepare (nx c.parts)).1 else c.send o.to c.values
  else if c.step = 2 then c.ask { zAq with kind := 13, gen := c.gen, part := o.part, offset := c.offset, pid := c.pid, epoch := c.epoch, bp := c.pid, be := c.epoch, bs := geti c.next (nx c.parts), bt := true, vals := [[]] }
  else { c.endT true with att := seti (c.endT true).att o.part (-1) }
def Cl.deed (c : Cl) (o : Oc) : Cl :=
  if o.kind = 1 then c.send o.part [o.value] else if o.kind = 2 then c.endT true else if o.kind = 3 then c.endT false else if o.kind = 4 then c.poll o else c.copy o
def Cl.decide (c : Cl) : Cl :=
  if c.done then c else if c.opn ≥ 0 ∧ c.ready = false then c.ask qInit else match c.ops[c.op.toNat]? with
  | none => c.finished
  | some o => c.deed o
def Cl.nextT (c : Cl) : Cl := { c with targets := seti c.targets c.partOf ((nx (geti c.targets c.partOf)).tmod c.nodes) }
def Cl.tick (c : Cl) : Cl :=
  if c.waits = false then c.decide else if nx c.age < 6 then { c with age := nx c.age }
  else { (if c.busy then { c with age := 0 } else ({ c with age := 0 } : Cl).nextT : Cl) with busy := false }.again
/-- the kind of the operation where it stands -/
def Cl.kindAt (c : Cl) : Int := match c.ops[c.op.toNat]? with | some o => o.kind | none => 0
def Cl.given (c : Cl) (m : Rp) : Cl :=
  let c1 := ({ c with ready := true, pid := m.pid, epoch := m.epoch } : Cl).close
  if c.opn < 0 then c1 else
    let mine : Bool := m.offset == c.opn && IntKind.u64.wrap m.high == c.pid
    let kind : Int := c.kindAt
    if mine = true ∧ m.commit = true ∧ (kind = 2 ∨ kind = 5) then c1.ended true
    else if mine = true ∧ m.commit = false ∧ kind = 3 then c1.ended false
    else { c1.tell { zSn with kind := 4, e := 14 } with op := c.begin }
def tells (part offset : Int) : Nat → List (List UInt8) → Cl → Cl
  | _, [], c => c
  | i, v :: vs, c => tells part offset (i + 1) vs (c.tell { zSn with kind := 1, part := part, offset := IntKind.i64.wrap (offset + (i : Int)), value := str v })
def Cl.sent (c : Cl) (m : Rp) : Cl :=
  let c1 := tells c.asked.part m.offset 0 c.asked.vals c
  let c2 : Cl := { c1 with next := seti c1.next c.asked.part (IntKind.i64.wrap (geti c1.next c.asked.part + (c.asked.vals.length : Int))) }
  if c.kindAt = 5 then { c2 with step := 2 } else { c2 with op := nx c.op }
def owner (ms : List Int) (k : Int) : Int := if ms.length = 0 ∨ k < 0 then -1 else geti ms (k.tmod ms.length)
def ownedBy (ms : List Int) (parts number : Int) : List Int := ((List.range parts.toNat).map fun k => ((k : Nat) : Int)).filter fun k => owner ms k == number
def isAborted (b : Bt) (l : List Ao) : Bool := l.any fun a => b.txn && a.pid == b.pid && decide (a.first ≤ b.base) && decide (b.base < a.last)
/-- what is read: the client, up to where, how many, which -/
structure Rs where
  c : Cl
  att : Int
  got : Int
  vals : List ByteArray
def rdVals (o : Oc) (k base : Int) : Nat → List (List UInt8) → Rs → Rs
  | _, [], r => r
  | i, v :: vs, r =>
    if IntKind.i64.wrap (base + (i : Int)) < r.att ∨ (o.kind = 5 ∧ r.got ≥ o.count) ∨ (o.kind = 4 ∧ IntKind.i64.wrap (r.c.count + r.got) ≥ o.count) then rdVals o k base (i + 1) vs r
    else rdVals o k base (i + 1) vs ⟨if o.kind = 4 then r.c.tell { zSn with kind := 5, part := k, offset := IntKind.i64.wrap (base + (i : Int)), value := str v } else r.c, nx (IntKind.i64.wrap (base + (i : Int))), nx r.got, r.vals ++ [str v]⟩
def passed (b : Bt) (att : Int) : Int :=
  let x := IntKind.i64.wrap (b.base + if 1 > (b.bs.length : Int) then 1 else (b.bs.length : Int))
  if x > att then x else att
def rdAll (o : Oc) (k : Int) (al : List Ao) : List Bt → Rs → Rs
  | [], r => r
  | b :: bl, r =>
    if b.control = true ∨ isAborted b al = true then rdAll o k al bl { r with att := passed b r.att }
    else
      let r' := rdVals o k b.base 0 b.bs r
      if r'.att < IntKind.i64.wrap (b.base + (b.bs.length : Int)) then r' else rdAll o k al bl r'
def Cl.copied (c : Cl) (att : Int) (vals : List ByteArray) : Cl :=
  if vals.length = 0 then { c with att := seti c.att c.asked.part (-1), step := 0, op := nx c.op } else { c with offset := att, values := vals, step := 1 }
def Cl.read (c : Cl) (m : Rp) : Cl :=
  match c.ops[c.op.toNat]? with
  | none => c
  | some o =>
    let k := c.asked.part
    let r := rdAll o k m.al m.bl ⟨c, geti c.att k, 0, []⟩
    if o.kind = 5 then r.c.copied r.att r.vals
    else { r.c with turn := nx r.c.turn, count := IntKind.i64.wrap (r.c.count + r.got), dry := if r.got > 0 ∨ r.att > geti r.c.att k then 0 else nx r.c.dry, att := seti r.c.att k r.att }
def Cl.placed (c : Cl) (m : Rp) : Cl :=
  if c.asked.kind = 11 then { c.away with joined := true, gen := m.gen, mine := ownedBy m.mi c.parts c.number }
  else if c.asked.kind = 14 then ({ c with att := seti c.att c.asked.part m.offset, sure := seti c.sure c.asked.part m.offset } : Cl).tell { zSn with kind := 6, part := c.asked.part, offset := m.offset }
  else if c.asked.kind = 12 then { c with sure := seti c.sure c.asked.part c.asked.offset }
  else if c.asked.kind = 6 then c.read m else c
def Cl.answered (c : Cl) (m : Rp) : Cl :=
  if c.asked.kind = 7 then c.given m else if c.asked.kind = 8 then { c with added := c.added ++ [c.asked.offset] } else if c.asked.kind = 5 then c.sent m
  else if c.asked.kind = 9 then ({ c with epoch := m.epoch } : Cl).ended c.asked.commit
  else if c.asked.kind = 13 then { c with next := seti c.next (nx c.parts) (nx (geti c.next (nx c.parts))), step := 3 } else c.placed m
def Cl.refused (c : Cl) (e : Int) : Cl :=
  if e = 17 then { c.tell { zSn with kind := 4, e := e } with op := (c.ops.length : Int) }
  else if e = 15 ∧ c.asked.kind = 12 then { c.away with op := nx c.op }
  else { (if e = 15 then c.away else c : Cl) with inc := nx c.inc, ready := false, step := 0 }
def decides : Nat → Cl → Cl
  | 0, c => c
  | n + 1, c => if c.waits = true ∨ c.done = true then c else decides n c.decide
def Cl.handle (c : Cl) (m : Rp) : Cl :=
  if c.waits = false ∨ m.kind ≠ 15 ∨ m.corr ≠ c.asked.corr ∨ m.inc ≠ c.inc then c
  else if m.er = 12 then { c with age := 5 }
  else if m.er = 16 ∨ m.er = 1 ∨ m.er = 5 ∨ m.er = 4 ∨ m.er = 9 ∨ m.er = 3 then { c with age := 4, busy := true }
  else decides 8 (if m.er = 0 then ({ c with waits := false } : Cl).answered m else ({ c with waits := false } : Cl).refused m.er)
end Go.Proofs.Ytajhdjjmhfbhgaa
