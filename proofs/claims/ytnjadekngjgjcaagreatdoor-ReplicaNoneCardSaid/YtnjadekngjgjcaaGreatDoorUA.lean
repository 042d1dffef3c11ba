/- Layers 9, 10, 14 in plain Lean: what a partition knows of producers, of epochs; a replica. -/
import Derived.Test.YtnjadekngjgjcaaGreatDoorE12
import Derived.Test.YtnjadekngjgjcaaGreatDoorPkMp
namespace Go.Proofs.YtnjadekngjgjcaaGreatDoor
open Go Go.Pk
/-- a batch that is known again -/
structure Sn where
  seq : Int
  size : Int
  base : Int
structure Pd where
  epoch : Int
  next : Int
  last : List Sn
  opn : Int
structure Ab where
  pid : Int
  first : Int
  last : Int
/-- what is known of producers -/
structure Pt9 where
  ps : List (Int × Pd)
  ab : List Ab
namespace Pt9
def new : Pt9 := ⟨[], []⟩
def find (t : Pt9) (n : Int) : Option Pd := getA t.ps n
noncomputable def check (t : Pt9) (b : Bd) : Int × Bool × Int :=
  if b.chk ≠ 0 then (0, false, b.chk) else if b.pid = 0 then (0, false, 0) else match t.find b.pid with
  | none => if b.ct then (0, false, 0) else if b.sq ≠ 0 then (0, false, 11) else (0, false, 0)
  | some p => if b.pe < p.epoch then (0, false, 10) else if b.ct then (0, false, 0) else
    if b.pe > p.epoch then (if b.sq ≠ 0 then (0, false, 11) else (0, false, 0)) else
    match p.last.find? fun s => decide (s.seq = b.sq ∧ s.size = b.size) with
    | some s => (s.base, true, 0)
    | none => if b.sq ≠ p.next then (0, false, 11) else (0, false, 0)
def fresh (p : Option Pd) (b : Bd) : Pd := match p with
  | none => ⟨b.pe, 0, [], -1⟩
  | some p => if b.pe > p.epoch then { p with epoch := b.pe, next := 0, last := [] } else p
def window (l : List Sn) : List Sn := if l.length > 5 then l.drop 1 else l
def apply (t : Pt9) (b : Bd) : Pt9 :=
  if b.pid = 0 then t else
  let p := fresh (t.find b.pid) b
  if b.ct then ⟨setA t.ps b.pid { p with opn := -1 }, if p.opn ≥ 0 ∧ b.cm = false then t.ab ++ [⟨b.pid, p.opn, b.ba⟩] else t.ab⟩
  else ⟨setA t.ps b.pid ⟨p.epoch, IntKind.i64.wrap (b.sq + b.size), window (p.last ++ [⟨b.sq, b.size, b.ba⟩]), if b.tx ∧ p.opn < 0 then b.ba else p.opn⟩, t.ab⟩
/-- where the first open transaction begins -/
def unstL : List (Int × Pd) → Option Int
  | [] => none
  | p :: m => match unstL m with
    | none => if p.2.opn ≥ 0 then some p.2.opn else none
    | some x => if p.2.opn ≥ 0 ∧ p.2.opn < x then some p.2.opn else some x
def unst (t : Pt9) : Option Int := unstL t.ps
def of (bs : List Bd) : Pt9 := bs.foldl apply new
end Pt9
/-- epochs, and where they begin -/
abbrev Ec := List (Int × Int)
namespace Ec
def cutL (at_ : Int) (l : Ec) : Nat → Nat
  | 0 => 0
  | k + 1 => match l[k]? with
    | some x => if x.2 ≥ at_ then cutL at_ l k else k + 1
    | none => k + 1
def cut (c : Ec) (at_ : Int) : Ec := c.take (cutL at_ c c.length)
def assign (c : Ec) (e at_ : Int) : Ec × Int :=
  if e < 0 ∨ at_ < 0 then (c, 1) else match c.getLast? with
  | some x => if e ≤ x.1 then (c, if e = x.1 then 0 else 5) else (cut c at_ ++ [(e, at_)], 0)
  | none => (cut c at_ ++ [(e, at_)], 0)
/-- the greatest epoch up to one, and where it ends -/
def endL (c : Ec) (e : Int) : Nat → Int → Option (Int × Int)
  | 0, _ => none
  | k + 1, fin => match c[k]? with
    | some x => if x.1 > e then endL c e k x.2 else some (x.1, fin)
    | none => none
def fin (c : Ec) (e f : Int) : Option (Int × Int) := endL c e c.length f
end Ec
/-- what a leader knows of a follower -/
structure Pe where
  at_ : Int
  since : Int
structure Rp where
  part : Int
  me : Int
  log : Lg
  pt : Pt9
  ec : Ec
  epoch : Int
  leads : Bool
  begin_ : Int
  high : Int
  isr : List Int
  asked : List Int
  peers : List (Int × Pe)
namespace Rp
abbrev peer (m : List (Int × Pe)) (n : Int) : Option Pe := getA m n
abbrev setPeer (m : List (Int × Pe)) (n : Int) (f : Pe) : List (Int × Pe) := setA m n f
def note (r : Rp) (b : Bd) : Rp := { r with pt := r.pt.apply b, ec := (r.ec.assign b.ep b.ba).1 }
def all (r : Rp) : List Bd := r.log.read 0 4194304
def learn (r : Rp) : Rp := r.all.foldl note { r with pt := Pt9.new, ec := [] }
def place (r : Rp) (n : Int) : Int := if n = r.me then r.log.sync else match peer r.peers n with | some p => p.at_ | none => -1
def low (r : Rp) (to_ : Int) : List Int → Int
  | [] => to_
  | n :: l => low r (min to_ (r.place n)) l
def rise (r : Rp) : Rp := { r with high := max r.high (r.low r.log.sync (r.isr ++ r.asked)) }
def lead (r : Rp) (e : Int) (isr : List Int) : Rp × Int :=
  if e ≤ r.epoch then (r, 12) else (rise { r with epoch := e, leads := true, begin_ := r.log.fin, isr := isr, asked := [], peers := [] }, 0)
def follow (r : Rp) (e : Int) : Rp × Int :=
  if e ≤ r.epoch then (r, 12) else ({ r with epoch := e, leads := false, isr := [], asked := [] }, 0)
def sync (r : Rp) (e : Int) (isr : List Int) : Rp × Int :=
  if r.leads = false ∨ e ≠ r.epoch then (r, 12) else (rise { r with isr := isr, asked := [] }, 0)
/-- a batch behind the leader's log -/
noncomputable def append (r : Rp) (d : Dk) (b : Bd) : Rp × Dk × Int × Int :=
  let b := { b with ba := r.log.fin, ep := r.epoch }
  if (r.log.put d b).2.2 ≠ 0 then ({ r with log := (r.log.put d b).1 }, (r.log.put d b).2.1, 0, (r.log.put d b).2.2) else
  let g := (r.log.put d b).1
  let d := (r.log.put d b).2.1
  if (g.flush d).2.2 ≠ 0 then ({ r with log := (g.flush d).1 }, (g.flush d).2.1, 0, (g.flush d).2.2) else
  (rise (note { r with log := (g.flush d).1 } b), (g.flush d).2.1, b.ba, 0)
noncomputable def produce (r : Rp) (d : Dk) (b : Bd) : Rp × Dk × Int × Int :=
  if r.leads = false then (r, d, 0, 12) else
  let b := { b with ba := 0, ep := 0 }
  if (r.pt.check b).2.2 ≠ 0 ∨ (r.pt.check b).2.1 then (r, d, (r.pt.check b).1, (r.pt.check b).2.2) else
  match r.pt.find b.pid with
  | some p => if b.ct ∧ p.epoch ≥ b.pe ∧ p.opn < 0 then (r, d, r.log.fin - 1, 0) else r.append d b
  | none => r.append d b
/-- what a follower asks: offset and last epoch -/
def need (r : Rp) : Option (Int × Int) := if r.leads ∨ r.epoch < 0 then none else some (r.log.fin, match r.ec.getLast? with | some x => x.1 | none => -1)
def stable (r : Rp) : Int := match (Pt9.of (r.all.filter fun b => decide (b.fin ≤ r.high))).unst with | some x => x | none => r.high
def wantOne (r : Rp) (reps : List Int) (n : Int) : Bool :=
  if n = r.me then true else if n ∉ reps then false else match peer r.peers n with
  | none => decide (n ∈ r.isr)
  | some p => if n ∈ r.isr then decide (p.since < 6) else decide (p.since < 6 ∧ p.at_ ≥ max r.high r.begin_)
def wants (r : Rp) (reps : List Int) : List Int := [0, 1, 2, 3, 4].filter (r.wantOne reps)
def want (r : Rp) (reps : List Int) : List Int × Bool := if r.leads = false then ([], false) else (r.wants reps, decide (r.wants reps ≠ r.isr) || decide (r.asked.length > 0))
def ask (r : Rp) (l : List Int) : Rp := if r.leads = false then r else { r with asked := r.asked ++ l }
/-- how far a follower has come -/
def seen (r : Rp) (n off : Int) : Rp :=
  let p := match peer r.peers n with | some p => p | none => ⟨0, 0⟩
  rise { r with peers := setPeer r.peers n ⟨off, if off ≥ r.log.fin then 0 else p.since⟩ }
def ready (r : Rp) : Bool := r.leads && decide (r.high ≥ r.begin_)
end Rp
/-- what a follower asks -/
structure Fq where
  part : Int
  epoch : Int
  node : Int
  off : Int
  last : Int
/-- what it is answered -/
structure Fr where
  part : Int
  epoch : Int
  e : Int
  high : Int
  div : Bool
  ende : Int
  fin : Int
  off : Int
  last : Int
  bs : List Bd
namespace Rp
/-- up to where a log is cut -/
def cutTo (r : Rp) (a : Fr) : Int := match r.ec.fin a.ende r.log.fin with
  | some x => max r.log.start (min a.fin x.2)
  | none => r.log.start
def needOf (r : Rp) : Int × Int := match r.need with | some x => x | none => (0, 0)
def cut (r : Rp) (d : Dk) (a : Fr) : Rp × Dk × Int :=
  if a.off ≠ r.needOf.1 ∨ a.last ≠ r.needOf.2 then (r, d, 13) else
  if r.cutTo a < r.high then (r, d, 13) else
  if (r.log.trunc d (r.cutTo a)).2.2 ≠ 0 then ({ r with log := (r.log.trunc d (r.cutTo a)).1 }, (r.log.trunc d (r.cutTo a)).2.1, (r.log.trunc d (r.cutTo a)).2.2)
  else (learn { r with log := (r.log.trunc d (r.cutTo a)).1 }, (r.log.trunc d (r.cutTo a)).2.1, 0)
end Rp
end Go.Proofs.YtnjadekngjgjcaaGreatDoor
