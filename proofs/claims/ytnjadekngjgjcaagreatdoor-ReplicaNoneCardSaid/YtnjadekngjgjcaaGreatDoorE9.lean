/- Texts of mine, put together: SU, SV, SW, SX, SY, SZ. -/
import Derived.Test.YtnjadekngjgjcaaGreatDoorE8
/- Layer 8 in plain Lean: batches that follow one another, as they stand in a file. -/
namespace Go.Proofs.YtnjadekngjgjcaaGreatDoor
open Go Go.Pk
def Bd.ok (x : Bd) : Prop := x.chk = 0 ∧ x.dc.num
def Chain : Int → List Bd → Prop
  | _, [] => True
  | n, x :: xs => x.ba = n ∧ x.ok ∧ Chain x.fin xs
def chEnd : Int → List Bd → Int
  | n, [] => n
  | _, x :: xs => chEnd x.fin xs
def fsOf (bs : List Bd) : List UInt8 := bs.flatMap fun x => frm x.enc
def endsF : Int → List Bd → List Int
  | _, [] => []
  | n, x :: xs => (n + (frm x.enc).length) :: endsF (n + (frm x.enc).length) xs
/-- a segment, as its batches stand in its file -/
def mkSg (base : Int) (name : List UInt8) (bs : List Bd) : Sg := ⟨base, name, (fsOf bs).length, bs, endsF 0 bs⟩
theorem fsOf_app (x y : List Bd) : fsOf (x ++ y) = fsOf x ++ fsOf y := by simp [fsOf]
theorem fsOf_one (x : Bd) : fsOf [x] = frm x.enc := by simp [fsOf]
theorem endsF_snoc (x : Bd) : ∀ (bs : List Bd) (n : Int), endsF n (bs ++ [x]) = endsF n bs ++ [n + (fsOf bs).length + (frm x.enc).length]
  | [], n => by simp [endsF, fsOf]
  | y :: bs, n => by
    simp only [List.cons_append, endsF, endsF_snoc x bs]
    congr 2
    simp only [fsOf, List.flatMap_cons, List.length_append]
    congr 1
    omega
theorem endsF_len : ∀ (bs : List Bd) (n : Int), (endsF n bs).length = bs.length
  | [], _ => rfl
  | _ :: bs, _ => by simp only [endsF, List.length_cons, endsF_len bs]
theorem mkSg_add {v : Int} {f : List UInt8} {bs : List Bd} {x : Bd} : (mkSg v f bs).add x (frm x.enc).length = mkSg v f (bs ++ [x]) := by
  unfold mkSg Sg.add
  rw [endsF_snoc]
  simp only [Sg.mk.injEq, true_and]
  refine ⟨?_, by simp⟩
  rw [fsOf_app, fsOf_one]; simp
theorem chEnd_last : ∀ (bs : List Bd) (n : Int), chEnd n bs = match bs.getLast? with | some b => b.fin | none => n
  | [], _ => rfl
  | [x], _ => rfl
  | x :: y :: bs, n => by
    rw [chEnd, chEnd_last (y :: bs) x.fin, List.getLast?_cons_cons]
    cases h : (y :: bs).getLast? with
    | none => simp at h
    | some z => rfl
theorem mkSg_fin {v : Int} {f : List UInt8} {bs : List Bd} : (mkSg v f bs).fin = chEnd v bs := (chEnd_last bs v).symm
theorem chain_app : ∀ (xs ys : List Bd) (n : Int), Chain n (xs ++ ys) ↔ Chain n xs ∧ Chain (chEnd n xs) ys
  | [], ys, n => by simp [Chain, chEnd]
  | x :: xs, ys, n => by
    simp only [List.cons_append, Chain, chEnd, chain_app xs ys]
    constructor
    · rintro ⟨a, b, c, d⟩; exact ⟨⟨a, b, c⟩, d⟩
    · rintro ⟨⟨a, b, c⟩, d⟩; exact ⟨a, b, c, d⟩
theorem chEnd_app : ∀ (xs ys : List Bd) (n : Int), chEnd n (xs ++ ys) = chEnd (chEnd n xs) ys
  | [], _, _ => rfl
  | x :: xs, ys, n => by simp only [List.cons_append, chEnd, chEnd_app xs ys]
theorem enc_small {x : Bd} (h : x.ok) : x.enc.length ≤ 2000 := encB_len h.2 h.1
end Go.Proofs.YtnjadekngjgjcaaGreatDoor

/- Layer 8: a log that there isn't; the law's first look: a batch is laid, flushed, and there behind a crash. -/
namespace Go.Proofs.YtnjadekngjgjcaaGreatDoor
open Go Go.Pk
section
variable {W w : World} {l : List Res} {K : Value → World → Prop} {a b : Nat} {g : Lg}
theorem tup2p {a : Option Addr} {e : Int} {K : Option Addr × Int × Unit → Prop} (h : K (a, e, ())) : TupP [.ptr, .int .i64] (.tuple #[.pointer a, .int .i64 e]) K := ⟨_, rfl, h⟩
/-! ### the first look -/
def aN : List UInt8 := [112, 48]
def aF : List UInt8 := [112, 48, 46, 48, 48, 48, 48, 48, 48, 48, 48]
def aG0 : Lg := ⟨aN, [], 0⟩
theorem aFile : aG0.file 0 = aF := by decide +kernel
theorem aRoll : aG0.roll Dk.new = (⟨aN, [mkSg 0 aF []], 0⟩, ⟨[(aF, ⟨[], 0⟩)], -1, false, 0⟩, 0) := by
  have e0 : aG0.fin = 0 := rfl
  have e1 : Dk.new.append aF [] = (⟨[(aF, ⟨[], 0⟩)], -1, false, 0⟩, 0) := by
    simp [Dk.append, Dk.new, Dk.look, Dk.lookL, Dk.fl0, Dk.fits, Dk.putL, aF]
  unfold Lg.roll
  show aG0.grow Dk.new = _
  unfold Lg.grow
  rw [e0, aFile, e1]
  rfl
end
end Go.Proofs.YtnjadekngjgjcaaGreatDoor

/- Layer 8: the reference's check sums and frames. -/
namespace Go.Pk
open Go
end Go.Pk
namespace Go.Proofs.YtnjadekngjgjcaaGreatDoor
open Go Go.Pk
section
variable {W w : World} {l : List Res} {K : Value → World → Prop}
end
end Go.Proofs.YtnjadekngjgjcaaGreatDoor

/- Layer 8: the reference's log in memory; lists of batches are compared. -/
namespace Go.Proofs.YtnjadekngjgjcaaGreatDoor
open Go Go.Pk
structure Rl where
  list : List Bd
  bases : List Int
  sync : Int
namespace Rl
def start (r : Rl) : Int := match r.bases with | b :: _ => b | [] => 0
def fin (r : Rl) : Int := match r.list.getLast? with | some b => b.fin | none => r.start
def bytes (r : Rl) (n : Int) : Int := ((fsOf (r.list.filter fun x => decide (n ≤ x.ba))).length : Nat)
def read (r : Rl) (n k : Int) : List Bd := (behind n r.list).take k.toNat
noncomputable def put (r : Rl) (b : Bd) : Rl × Int :=
  if b.chk ≠ 0 then (r, b.chk) else if b.ba ≠ r.fin then (r, 13) else match r.bases.getLast? with
  | none => ({ r with list := r.list ++ [b], bases := [0] }, 0)
  | some n => if r.bytes n ≥ 512 then (⟨r.list ++ [b], r.bases ++ [b.ba], r.fin⟩, 0) else ({ r with list := r.list ++ [b] }, 0)
end Rl
section
variable {W w : World} {l : List Res} {K : Value → World → Prop} {a : Nat} {r : Rl} {ls bs : Sl} {ds : List Dc}
theorem fsOf_le (bs : List Bd) (h : ∀ x ∈ bs, x.ok) : (fsOf bs).length ≤ 2008 * bs.length := by
  induction bs with
  | nil => simp [fsOf]
  | cons x bs ih =>
    have e : fsOf (x :: bs) = frm x.enc ++ fsOf bs := by simp [fsOf]
    have h1 := enc_small (h x (by simp))
    have h2 := ih fun y hy => h y (by simp [hy])
    rw [e, List.length_append, frm_len, List.length_cons]; omega
end
end Go.Proofs.YtnjadekngjgjcaaGreatDoor

/- Layer 8: the reference's log is read and grows; lists are compared. -/
namespace Go.Proofs.YtnjadekngjgjcaaGreatDoor
open Go Go.Pk
section
variable {W w : World} {l : List Res} {K : Value → World → Prop} {a : Nat} {r : Rl} {ls bs : Sl} {ds : List Dc}
end
end Go.Proofs.YtnjadekngjgjcaaGreatDoor

/- Layer 8: a batch is laid in the reference's log. -/
namespace Go.Proofs.YtnjadekngjgjcaaGreatDoor
open Go Go.Pk
/-- the reference's segments ahead of a batch -/
def Rl.pre (r : Rl) (ba : Int) : Rl := match r.bases.getLast? with
  | none => { r with bases := [0] }
  | some n => if r.bytes n ≥ 512 then ⟨r.list, r.bases ++ [ba], r.fin⟩ else r
section
variable {W w : World} {l : List Res} {K : Value → World → Prop} {a : Nat} {r : Rl} {ls bs : Sl} {ds : List Dc}
end
end Go.Proofs.YtnjadekngjgjcaaGreatDoor
