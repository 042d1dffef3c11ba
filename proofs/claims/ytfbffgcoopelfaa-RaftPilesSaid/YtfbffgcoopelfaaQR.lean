/- Layer 12 in plain Lean: a node of a quorum, and what it does. -/
import Derived.Test.YtfbffgcoopelfaaE2
namespace Go.Pk
open Go
abbrev En := Int × List UInt8
structure Hd where
  term : Int
  vote : Int
  base : Int
  bterm : Int
  snap : List UInt8
  log : List En
structure Mg where
  kind : Int
  frm : Int
  to : Int
  term : Int
  index : Int
  lterm : Int
  commit : Int
  rej : Bool
  ents : List En
  snap : List UInt8
structure Rs where
  id : Int
  n : Int
  hd : Hd
  role : Int
  leader : Int
  commit : Int
  told : Int
  ticks : Int
  limit : Int
  votes : Option (List (Int × Bool))
  next : List Int
  mtch : List Int
  save : Bool
  msgs : List Mg
  restore : Bool
  rsnap : List UInt8
  commits : List En
namespace Rs
def last (r : Rs) : Int := r.hd.base + r.hd.log.length
def termAt (r : Rs) (i : Int) : Int × Bool :=
  if i = r.hd.base then (r.hd.bterm, true) else if i < r.hd.base ∨ i > r.last then (0, false) else
  ((match r.hd.log[(i - r.hd.base - 1).toNat]? with | some e => e.1 | none => 0), true)
def send (r : Rs) (m : Mg) : Rs := { r with msgs := r.msgs ++ [{ m with frm := r.id }] }
def follow (r : Rs) (term leader : Int) : Rs :=
  { (if term > r.hd.term then { r with hd := { r.hd with term := term, vote := -1 }, save := true } else r) with role := 0, leader := leader, votes := none }
def have_ (r : Rs) (i : Int) : Int := ((r.mtch.filter fun m => decide (m ≥ i)).length : Int)
def advFrom (r : Rs) : Nat → Int → Rs
  | 0, _ => r
  | k + 1, i => if (r.termAt i).1 ≠ r.hd.term then r else if 2 * r.have_ i > r.n then { r with commit := i } else advFrom r k (i - 1)
def advance (r : Rs) : Rs := r.advFrom (r.last - r.commit).toNat r.last
def mg0 : Mg := ⟨0, 0, 0, 0, 0, 0, 0, false, [], []⟩
def at_ (l : List Int) (i : Int) : Int := match l[i.toNat]? with | some x => x | none => 0
def feed (r : Rs) (to : Int) : Rs :=
  let before := at_ r.next to - 1
  if (r.termAt before).2 = false then r.send { mg0 with kind := 7, to := to, term := r.hd.term, index := r.hd.base, lterm := r.hd.bterm, commit := r.commit, snap := r.hd.snap }
  else r.send { mg0 with kind := 5, to := to, term := r.hd.term, index := before, lterm := (r.termAt before).1, commit := r.commit, ents := (r.hd.log.drop (before - r.hd.base).toNat).take 16 }
def spreadTo (r : Rs) : Nat → Rs
  | 0 => r
  | k + 1 => if (k : Int) = r.id then r.spreadTo k else (r.spreadTo k).feed k
def spread (r : Rs) : Rs := r.spreadTo r.n.toNat
def append (r : Rs) (data : List UInt8) : Rs :=
  let r1 := { r with hd := { r.hd with log := r.hd.log ++ [(r.hd.term, data)] }, save := true }
  advance { r1 with mtch := r1.mtch.set r.id.toNat r1.last }
def lead (r : Rs) : Rs :=
  let r1 := { r with role := 3, leader := r.id, votes := none, next := List.replicate r.n.toNat (r.last + 1), mtch := List.replicate r.n.toNat 0 }
  (r1.append []).spread
def yes (v : List (Int × Bool)) : Int := ((v.filter fun p => p.2).length : Int)
def votesOf (r : Rs) : List (Int × Bool) := match r.votes with | some v => v | none => []
def countC (r : Rs) : Rs := if 2 * yes r.votesOf ≤ r.n then r else r.lead
def asked (r : Rs) (kind term : Int) : Nat → Rs
  | 0 => r
  | k + 1 => if (k : Int) = r.id then r.asked kind term k else (r.asked kind term k).send { mg0 with kind := kind, to := k, term := term, index := r.last, lterm := (r.termAt r.last).1 }
def askC (r : Rs) : Rs :=
  let r1 := { r with role := 2, leader := -1, hd := { r.hd with term := r.hd.term + 1, vote := r.id }, save := true, votes := some [(r.id, true)] }
  (r1.asked 3 (r.hd.term + 1) r.n.toNat).countC
def count (r : Rs) : Rs := if 2 * yes r.votesOf ≤ r.n then r else if r.role = 1 then r.askC else r.lead
def askP (r : Rs) : Rs :=
  let r1 := { r with role := 1, leader := -1, votes := some [(r.id, true)] }
  (r1.asked 1 (r.hd.term + 1) r.n.toNat).count
def tick (r : Rs) (draw : Int) : Rs :=
  if r.role = 3 then r.spread else
  let r1 := { r with ticks := r.ticks + 1 }
  if r1.ticks ≥ r1.limit then ({ r1 with ticks := 0, limit := 4 + draw % 4 }).askP else r1
def propose (r : Rs) (data : List UInt8) : Rs × Int × Int :=
  if r.role ≠ 3 then (r, 0, 12) else if data.length > 4096 then (r, 0, 2) else if r.last - r.commit ≥ 64 then (r, 0, 3) else
  let r1 := (r.append data).spread
  (r1, r1.last, 0)
def fresh (r : Rs) (m : Mg) : Bool := decide (m.lterm > (r.termAt r.last).1) || (decide (m.lterm = (r.termAt r.last).1) && decide (m.index ≥ r.last))
def vput : List (Int × Bool) → Int → List (Int × Bool)
  | [], a => [(a, true)]
  | p :: m, a => if p.1 = a then (a, true) :: m else p :: vput m a
def vote (r : Rs) (a : Int) : Rs := { r with votes := r.votes.map fun v => vput v a }
def prevoted (r : Rs) (m : Mg) : Rs :=
  if m.rej = true ∧ m.term > r.hd.term then r.follow m.term (-1)
  else if m.rej = false ∧ r.role = 1 ∧ m.term = r.hd.term + 1 then (r.vote m.frm).count else r
def takeEnts (r : Rs) : List En → Int → Rs
  | [], _ => r
  | e :: l, i => if (r.termAt i).2 = true ∧ (r.termAt i).1 = e.1 then r.takeEnts l (i + 1) else if i ≤ r.commit then r else
    takeEnts { r with hd := { r.hd with log := r.hd.log.take (i - r.hd.base - 1).toNat ++ [e] }, save := true } l (i + 1)
/-- did the taking of entries give up? -/
def stops (r : Rs) : List En → Int → Bool
  | [], _ => false
  | e :: l, i => if (r.termAt i).2 = true ∧ (r.termAt i).1 = e.1 then r.stops l (i + 1) else if i ≤ r.commit then true else
    stops { r with hd := { r.hd with log := r.hd.log.take (i - r.hd.base - 1).toNat ++ [e] }, save := true } l (i + 1)
def takeAt (r : Rs) (frm index lterm commit : Int) (ents : List En) : Rs :=
  if (r.termAt index).2 = false ∨ (r.termAt index).1 ≠ lterm then r.send { mg0 with kind := 6, to := frm, term := r.hd.term, rej := true, index := max (min r.last (index - 1)) r.commit } else
  if r.stops ents (index + 1) = true then r.takeEnts ents (index + 1) else
  let r1 := r.takeEnts ents (index + 1)
  let got := index + ents.length
  let r2 := { r1 with commit := max r1.commit (min commit got) }
  r2.send { mg0 with kind := 6, to := frm, term := r2.hd.term, index := got }
def take (r : Rs) (m : Mg) : Rs :=
  if m.index < r.hd.base then
    if m.index < 0 ∨ r.hd.base - m.index > m.ents.length then r.send { mg0 with kind := 6, to := m.frm, term := r.hd.term, index := r.commit }
    else r.takeAt m.frm r.hd.base r.hd.bterm m.commit (m.ents.drop (r.hd.base - m.index).toNat)
  else r.takeAt m.frm m.index m.lterm m.commit m.ents
def install (r : Rs) (m : Mg) : Rs :=
  let r1 := if m.index > r.commit then
      { r with hd := { r.hd with log := (if (r.termAt m.index).2 = true ∧ (r.termAt m.index).1 = m.lterm then r.hd.log.drop (m.index - r.hd.base).toNat else []), base := m.index, bterm := m.lterm, snap := m.snap },
               commit := m.index, told := m.index, save := true, restore := true, rsnap := m.snap, commits := [] }
    else r
  r1.send { mg0 with kind := 6, to := m.frm, term := r1.hd.term, index := max m.index r1.commit }
def appended (r : Rs) (m : Mg) : Rs :=
  if r.role ≠ 3 ∨ m.index < 0 ∨ m.index > r.last then r else
  if m.rej = true then
    if m.index + 1 < at_ r.next m.frm ∧ m.index ≥ at_ r.mtch m.frm then ({ r with next := r.next.set m.frm.toNat (m.index + 1) }).feed m.frm else r
  else if m.index > at_ r.mtch m.frm then
    let r1 := { r with mtch := r.mtch.set m.frm.toNat m.index, next := r.next.set m.frm.toNat (max (at_ r.next m.frm) (m.index + 1)) }
    let r2 := r1.advance
    if r2.commit > r1.commit then r2.spread else if at_ r2.next m.frm ≤ r2.last then r2.feed m.frm else r2
  else r
def now (r : Rs) (m : Mg) : Rs :=
  if m.kind = 3 then
    let y := (decide (r.hd.vote < 0) || decide (r.hd.vote = m.frm)) && r.fresh m
    let r1 := if y = true then { r with save := (r.save || decide (r.hd.vote ≠ m.frm)), hd := { r.hd with vote := m.frm }, ticks := 0 } else r
    r1.send { mg0 with kind := 4, to := m.frm, term := r1.hd.term, rej := !y }
  else if m.kind = 4 then (if r.role = 2 ∧ m.rej = false then (r.vote m.frm).count else r)
  else if m.kind = 5 ∨ m.kind = 7 then
    if r.role = 3 then r else
    let r1 := { r.follow m.term m.frm with ticks := 0 }
    if m.kind = 5 then r1.take m else r1.install m
  else if m.kind = 6 then r.appended m else r
def step (r : Rs) (m : Mg) : Rs :=
  if m.to ≠ r.id ∨ m.frm < 0 ∨ m.frm ≥ r.n ∨ m.frm = r.id ∨ m.term < 0 then r else
  if m.kind = 1 then
    let y := decide (m.term > r.hd.term) && r.fresh m && decide (r.role ≠ 3) && (decide (r.leader < 0) || decide (r.ticks ≥ 4))
    r.send { mg0 with kind := 2, to := m.frm, term := (if y = true then m.term else r.hd.term), rej := !y }
  else if m.kind = 2 then r.prevoted m else
  let r1 := if m.term > r.hd.term then r.follow m.term (-1) else r
  if m.term < r1.hd.term then
    (if m.kind = 5 ∨ m.kind = 7 then r1.send { mg0 with kind := 6, to := m.frm, term := r1.hd.term, rej := true, index := r1.last } else r1)
  else r1.now m
/-- what is told as committed -/
def tells (r : Rs) : Nat → Int → List En
  | 0, _ => []
  | k + 1, t => (t + 1, (match r.hd.log[(t - r.hd.base).toNat]? with | some e => e.2 | none => [])) :: r.tells k (t + 1)
def compact (r : Rs) (index : Int) (snap : List UInt8) : Rs × Int :=
  if index ≤ r.hd.base ∨ index > r.told then (r, 1) else if snap.length > 4096 then (r, 2) else
  ({ r with hd := { r.hd with log := r.hd.log.drop (index - r.hd.base).toNat, base := index, bterm := (r.termAt index).1, snap := snap }, save := true }, 0)
/-- a node that begins -/
def new (id n : Int) (h : Hd) : Rs :=
  { id := id, n := n, hd := h, role := 0, leader := -1, commit := h.base, told := h.base, ticks := 0, limit := 4, votes := none, next := List.replicate n.toNat 0, mtch := List.replicate n.toNat 0,
    save := false, msgs := [], restore := decide (h.base > 0), rsnap := (if h.base > 0 then h.snap else []), commits := [] }
def badNew (id n : Int) (h : Hd) : Bool := decide (n < 1) || decide (n > 5) || decide (id < 0) || decide (id ≥ n) || decide (h.term < 0) || decide (h.base < 0) || decide (h.vote < -1) || decide (h.vote ≥ n)
end Rs
/-- what a node wants done -/
structure Rd' where
  save : Bool
  hd : Option Hd
  msgs : List Mg
  restore : Bool
  snap : List UInt8
  commits : List En
def Rs.taken (r : Rs) : Rd' × Rs :=
  let cs := r.commits ++ r.tells (r.commit - r.told).toNat r.told
  (⟨r.save, (if r.save then some r.hd else none), r.msgs, r.restore, r.rsnap, cs⟩, { r with told := max r.told r.commit, save := false, msgs := [], restore := false, rsnap := [], commits := [] })
end Go.Pk
