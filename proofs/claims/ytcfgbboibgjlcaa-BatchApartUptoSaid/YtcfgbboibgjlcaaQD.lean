/- Layer 7 in plain Lean: how a batch is taken. -/
import Derived.Test.YtcfgbboibgjlcaaBE
import Derived.Test.YtcfgbboibgjlcaaQC3
namespace Go.Proofs.Ytcfgbboibgjlcaa
open Go Go.Pk
def takeVs (t : List UInt8) : Nat → Nat → Int → List (List UInt8) × Nat × Int
  | 0, p, e => ([], p, e)
  | n + 1, p, e => ((takeB t p e).1 :: (takeVs t n (takeB t p e).2.1 (takeB t p e).2.2).1, (takeVs t n (takeB t p e).2.1 (takeB t p e).2.2).2)
def st1 (t : List UInt8) : Int × Nat × Int := takeI t 0 0
def st2 (t : List UInt8) : Int × Nat × Int := takeI t (st1 t).2.1 (st1 t).2.2
def st3 (t : List UInt8) : Nat × Nat × Int := takeU t (st2 t).2.1 (st2 t).2.2
def st4 (t : List UInt8) : Int × Nat × Int := takeI t (st3 t).2.1 (st3 t).2.2
def st5 (t : List UInt8) : Int × Nat × Int := takeI t (st4 t).2.1 (st4 t).2.2
def st6 (t : List UInt8) : Bool × Nat × Int := takeF t (st5 t).2.1 (st5 t).2.2
def st7 (t : List UInt8) : Bool × Nat × Int := takeF t (st6 t).2.1 (st6 t).2.2
def st8 (t : List UInt8) : Bool × Nat × Int := takeF t (st7 t).2.1 (st7 t).2.2
def st9 (t : List UInt8) : Nat × Nat × Int := takeU t (st8 t).2.1 (st8 t).2.2
def stV (t : List UInt8) : List (List UInt8) × Nat × Int := takeVs t (st9 t).1 (st9 t).2.1 (st9 t).2.2
def decD (t : List UInt8) : Dc := ⟨(st1 t).1, (st2 t).1, (st3 t).1, (st4 t).1, (st5 t).1, (st6 t).1, (st7 t).1, (st8 t).1, ⟨none, 0, 0⟩, [], (stV t).1⟩
noncomputable def decE (t : List UInt8) : Int :=
  if (st9 t).2.2 = 0 ∧ (st9 t).1 > 16 then 2 else if endE t (stV t).2.1 (stV t).2.2 ≠ 0 then endE t (stV t).2.1 (stV t).2.2 else chk (decD t)
theorem takeI_bound {t : List UInt8} {p : Nat} {e : Int} (hp : p ≤ t.length) : (takeI t p e).2.1 ≤ t.length := (takeU_bound (e := e) hp).2.2.1
theorem takeVs_bound {t : List UInt8} : ∀ (n p : Nat) (e : Int), p ≤ t.length → (takeVs t n p e).2.1 ≤ t.length
  | 0, p, e, hp => hp
  | n + 1, p, e, hp => takeVs_bound n _ _ (takeB_bound hp)
theorem takeVs_len {t : List UInt8} : ∀ (n p : Nat) (e : Int), (takeVs t n p e).1.length = n
  | 0, _, _ => rfl
  | n + 1, p, e => by simp only [takeVs, List.length_cons]; rw [takeVs_len n]
theorem takeVs_err {t : List UInt8} : ∀ (n p : Nat) (e : Int), e ≠ 0 → (takeVs t n p e).2 = (p, e)
  | 0, _, _, _ => rfl
  | n + 1, p, e, he => by
    simp only [takeVs, takeB_err he]
    exact takeVs_err n p e he
theorem takeVs_snoc {t : List UInt8} : ∀ (n p : Nat) (e : Int), takeVs t (n + 1) p e = ((takeVs t n p e).1 ++ [(takeB t (takeVs t n p e).2.1 (takeVs t n p e).2.2).1], (takeB t (takeVs t n p e).2.1 (takeVs t n p e).2.2).2)
  | 0, p, e => by simp [takeVs]
  | n + 1, p, e => by
    have ih := takeVs_snoc n (takeB t p e).2.1 (takeB t p e).2.2 (t := t)
    rw [takeVs, ih]
    simp only [takeVs, List.cons_append]
theorem st_bounds (t : List UInt8) : (st1 t).2.1 ≤ t.length ∧ (st2 t).2.1 ≤ t.length ∧ (st3 t).2.1 ≤ t.length ∧ (st4 t).2.1 ≤ t.length ∧ (st5 t).2.1 ≤ t.length ∧ (st6 t).2.1 ≤ t.length ∧ (st7 t).2.1 ≤ t.length ∧ (st8 t).2.1 ≤ t.length ∧ (st9 t).2.1 ≤ t.length ∧ (stV t).2.1 ≤ t.length := by
  have h1 : (st1 t).2.1 ≤ t.length := takeI_bound (Nat.zero_le _)
  have h2 : (st2 t).2.1 ≤ t.length := takeI_bound h1
  have h3 : (st3 t).2.1 ≤ t.length := (takeU_bound h2).2.2.1
  have h4 : (st4 t).2.1 ≤ t.length := takeI_bound h3
  have h5 : (st5 t).2.1 ≤ t.length := takeI_bound h4
  have h6 : (st6 t).2.1 ≤ t.length := takeF_bound h5
  have h7 : (st7 t).2.1 ≤ t.length := takeF_bound h6
  have h8 : (st8 t).2.1 ≤ t.length := takeF_bound h7
  have h9 : (st9 t).2.1 ≤ t.length := (takeU_bound h8).2.2.1
  exact ⟨h1, h2, h3, h4, h5, h6, h7, h8, h9, takeVs_bound _ _ _ h9⟩
end Go.Proofs.Ytcfgbboibgjlcaa
