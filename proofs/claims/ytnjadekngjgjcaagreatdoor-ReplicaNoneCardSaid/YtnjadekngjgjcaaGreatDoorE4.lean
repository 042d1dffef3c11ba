/- Texts of mine, put together: LA, LB, LC, LD, LE, LF. -/
import Derived.Test.YtnjadekngjgjcaaGreatDoorE3
import Derived.Test.YtnjadekngjgjcaaGreatDoorE2
/- Layer 3: the law of one number after another. -/
namespace Go.Proofs.YtnjadekngjgjcaaGreatDoor
open Go Go.Pk
section
variable {W w : World} {l : List Res} {K : Value → World → Prop}
theorem tup2 {s : Sl} {e : Int} {K : Sl × Int × Unit → Prop} (h : K (s, e, ())) : TupP [.sl, .int .i64] (.tuple #[s.v, .int .i64 e]) K := ⟨_, rfl, h⟩
theorem wOut0_ok {b : Nat} {o : List UInt8} (h : Sat W w (WrR b o 0 :: l)) (hlen : o.length ≤ 140737488355328)
    (h1 : ∀ s w', Sat W w' (BsR s o :: WrR b o 0 :: l) → K (.tuple #[s.v, .int .i64 0]) w') : CallP P F_codec_Writer_Out [.pointer (some ⟨b, 0, none⟩)] w K :=
  wOut_ok h hlen (fun h => absurd rfl h) fun _ => h1
end
end Go.Proofs.YtnjadekngjgjcaaGreatDoor

/- Layer 3: the laws of one's own bytes and of taking. -/
namespace Go.Proofs.YtnjadekngjgjcaaGreatDoor
open Go Go.Pk
section
variable {W w : World} {l : List Res} {K : Value → World → Prop}
end
end Go.Proofs.YtnjadekngjgjcaaGreatDoor

/- Layer 3: the law of taking what any bytes hold. -/
namespace Go.Pk
open Go
theorem takeF_bound {t : List UInt8} {p : Nat} {e : Int} (hp : p ≤ t.length) : (takeF t p e).2.1 ≤ t.length := by
  have := takeU_bound (e := e) hp
  simp only [takeF]; split <;> simp <;> omega
theorem takeB_bound {t : List UInt8} {p : Nat} {e : Int} (hp : p ≤ t.length) : (takeB t p e).2.1 ≤ t.length := by
  have := takeU_bound (e := e) hp
  simp only [takeB]; split
  · simp; omega
  · split
    · simp; omega
    · split <;> simp <;> omega
end Go.Pk
namespace Go.Proofs.YtnjadekngjgjcaaGreatDoor
open Go Go.Pk
section
variable {W w : World} {l : List Res} {K : Value → World → Prop} {b c p : Nat} {t : List UInt8} {e : Int} {s : Sl}
end
end Go.Proofs.YtnjadekngjgjcaaGreatDoor

/- Layer 3: the law's own way of laying an item; the writer that is none. -/
namespace Go.Proofs.YtnjadekngjgjcaaGreatDoor
open Go Go.Pk
def wp (p : Option Nat) : Option Addr := p.map fun b => ⟨b, 0, none⟩
structure It where
  k : Int
  u : Int
  i : Int
  f : Bool
  b : Sl
  n : Sl
  bs : List UInt8
  ns : List Int
def It.cells (x : It) : List Value := [.int .i64 x.k, .int .u64 x.u, .int .i64 x.i, .bool x.f, x.b.v, x.n.v]
def It.ok (x : It) (W : World) : Prop := 0 ≤ x.u ∧ x.u < 18446744073709551616 ∧ -9223372036854775808 ≤ x.i ∧ x.i < 9223372036854775808 ∧ (∀ i ∈ x.ns, -9223372036854775808 ≤ i ∧ i < 9223372036854775808) ∧ RdC W x.b 1 (x.bs.map vB) ∧ RdC W x.n 1 (x.ns.map vI)
def It.form (x : It) : List UInt8 := if x.k = 0 then uintB x.u.toNat else if x.k = 1 then intB x.i else if x.k = 2 then flagB x.f else if x.k = 3 then fixedB (x.u.toNat % 4294967296) else if x.k = 4 then bytesB x.bs else intsB x.ns
theorem flat_len : ∀ (m : List Int), (∀ i ∈ m, -9223372036854775808 ≤ i ∧ i < 9223372036854775808) → (m.flatMap intB).length ≤ 10 * m.length := by
  intro m
  induction m with
  | nil => simp
  | cons x m ih =>
    intro hm
    have := ih fun i hi => hm i (by simp [hi])
    have h3 := uintB_len10 (zig x) (zig_lt (hm x (by simp)).1 (hm x (by simp)).2)
    simp only [List.flatMap_cons, List.length_append, List.length_cons, intB] at this ⊢; omega
section
variable {W w : World} {l : List Res} {K : Value → World → Prop} {p : Option Nat} {o : List UInt8} {e : Int}
end
end Go.Proofs.YtnjadekngjgjcaaGreatDoor

/- Layer 3: the law of laying, and of the writer and reader that are none. -/
namespace Go.Proofs.YtnjadekngjgjcaaGreatDoor
open Go Go.Pk
section
variable {W w : World} {l : List Res} {K : Value → World → Prop}
end
end Go.Proofs.YtnjadekngjgjcaaGreatDoor

/- Layer 3: the laws of taking back what was laid, and of what was cut off. -/
namespace Go.Pk
open Go
end Go.Pk
namespace Go.Proofs.YtnjadekngjgjcaaGreatDoor
open Go Go.Pk
def It.small (x : It) : Prop := x.bs.length ≤ 4096 ∧ x.ns.length ≤ 4096
section
variable {W w : World} {l : List Res} {K : Value → World → Prop}
end
end Go.Proofs.YtnjadekngjgjcaaGreatDoor
