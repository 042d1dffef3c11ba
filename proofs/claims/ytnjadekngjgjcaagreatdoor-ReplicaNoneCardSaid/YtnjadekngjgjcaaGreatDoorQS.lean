/- Layer 5 in plain Lean: a disk. -/
import Derived.Test.YtnjadekngjgjcaaGreatDoorE2
namespace Go.Pk
open Go
structure Fl where
  data : List UInt8
  sync : Int
structure Dk where
  files : List (List UInt8 × Fl)
  fuse : Int
  dead : Bool
  used : Int
namespace Dk
def new : Dk := ⟨[], -1, false, 0⟩
def lookL : List (List UInt8 × Fl) → List UInt8 → Option Fl
  | [], _ => none
  | p :: m, n => if p.1 = n then some p.2 else lookL m n
def putL : List (List UInt8 × Fl) → List UInt8 → Fl → List (List UInt8 × Fl)
  | [], n, f => [(n, f)]
  | p :: m, n, f => if p.1 = n then (n, f) :: m else p :: putL m n f
def delL : List (List UInt8 × Fl) → List UInt8 → List (List UInt8 × Fl)
  | [], _ => []
  | p :: m, n => if p.1 = n then m else p :: delL m n
def look (d : Dk) (n : List UInt8) : Option Fl := lookL d.files n
/-- how many of so many bytes are written -/
def fits (d : Dk) (n : Nat) : Nat := if d.fuse ≥ 0 then min n d.fuse.toNat else n
/-- the file of a name, or a new one -/
def fl0 (d : Dk) (n : List UInt8) : Fl := match d.look n with | some f => f | none => ⟨[], 0⟩
def append (d : Dk) (n : List UInt8) (b : List UInt8) : Dk × Int :=
  if d.dead then (d, 9) else if n = [] ∨ n.length > 24 then (d, 1) else
  if (b.length : Int) > 4194304 - d.used ∨ (d.look n = none ∧ d.files.length = 4096) then (d, 3) else
  let f := d.fl0 n
  let k := d.fits b.length
  (⟨putL d.files n ⟨f.data ++ b.take k, f.sync⟩, if d.fuse ≥ 0 then d.fuse - k else d.fuse, decide (k < b.length), d.used + k⟩, if k < b.length then 9 else 0)
def find (d : Dk) (n : List UInt8) : Option Fl × Int := if d.dead then (none, 9) else match d.look n with | some f => (some f, 0) | none => (none, 4)
def sync (d : Dk) (n : List UInt8) : Dk × Int := match d.find n with
  | (some f, _) => ({ d with files := putL d.files n { f with sync := f.data.length } }, 0)
  | (none, e) => (d, e)
def cut (d : Dk) (n : List UInt8) (k : Int) : Dk × Int := match d.find n with
  | (none, e) => (d, e)
  | (some f, _) => if k < 0 ∨ k > f.data.length then (d, 1) else
    ({ d with files := putL d.files n ⟨f.data.take k.toNat, min f.sync k⟩, used := d.used - (f.data.length - k) }, 0)
def remove (d : Dk) (n : List UInt8) : Dk × Int := match d.find n with
  | (some f, _) => ({ d with files := delL d.files n, used := d.used - f.data.length }, 0)
  | (none, e) => (d, e)
def total (l : List (List UInt8 × Fl)) : Int := (l.map fun p => (p.2.data.length : Int)).foldr (· + ·) 0
def names (d : Dk) : List (List UInt8) := d.files.map (·.1)
end Dk
end Go.Pk
