/- Layer 19: a client begins anew. -/
import Derived.Test.YtajhdjjmhfbhgaaKHd
namespace Go.Proofs.Ytajhdjjmhfbhgaa
open Go Go.Pk
def Cl.anew (c : Cl) : Cl := ({ c with inc := nx c.inc } : Cl).fresh
section
variable {W w : World} {l : List Res} {K : Value → World → Prop} {b : Nat} {c : Cl}
theorem anew_ok (h : Sat W w (ClM b c :: l)) (h0 : 0 ≤ c.parts) (h1 : c.parts ≤ 4) (hK : ∀ w', Sat W w' (ClM b c.anew :: l) → K (.tuple #[]) w') : CallP P F_client_Client_Again [.pointer (some ⟨b, 0, none⟩)] w K := by
  apply c_client_Client_Again
  unfold S_client_Client_Again
  simp only [Option.isNone_some, Bool.not_false, ifB_true]
  obtain ⟨p, h2⟩ := sat_cl.1 h
  refine ldX h2 10 (x := c.inc) ?_
  refine stX h2 10 fun w3 h3 => ?_
  have h3 : Sat W w3 (ClL b { c with inc := nx c.inc } p l) := h3
  exact fresh_ok (c := { c with inc := nx c.inc }) (sat_cl.2 ⟨p, h3⟩) h0 h1 fun w4 h4 => tupU rfl (hK w4 h4)
end
end Go.Proofs.Ytajhdjjmhfbhgaa
