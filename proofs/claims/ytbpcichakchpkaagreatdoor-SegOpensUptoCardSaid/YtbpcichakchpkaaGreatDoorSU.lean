/- Layer 8 in plain Lean: batches that follow one another, as they stand in a file. -/
import Derived.Test.YtbpcichakchpkaaGreatDoorE8
namespace Go.Proofs.YtbpcichakchpkaaGreatDoor
open Go Go.Pk
def Bd.ok (x : Bd) : Prop := x.chk = 0 ∧ x.dc.num
def Chain : Int → List Bd → Prop
  | _, [] => True
  | n, x :: xs => x.ba = n ∧ x.ok ∧ Chain x.fin xs
def chEnd : Int → List Bd → Int
  | n, [] => n
  | _, x :: xs => chEnd x.fin xs
def fsOf (bs : List Bd) : List UInt8 := bs.flatMap fun x => frm x.enc
def endsF : Int → List Bd → List Int
  | _, [] => []
  | n, x :: xs => (n + (frm x.enc).length) :: endsF (n + (frm x.enc).length) xs
/-- a segment, as its batches stand in its file -/
def mkSg (base : Int) (name : List UInt8) (bs : List Bd) : Sg := ⟨base, name, (fsOf bs).length, bs, endsF 0 bs⟩
theorem fsOf_app (x y : List Bd) : fsOf (x ++ y) = fsOf x ++ fsOf y := by simp [fsOf]
theorem fsOf_one (x : Bd) : fsOf [x] = frm x.enc := by simp [fsOf]
theorem endsF_snoc (x : Bd) : ∀ (bs : List Bd) (n : Int), endsF n (bs ++ [x]) = endsF n bs ++ [n + (fsOf bs).length + (frm x.enc).length]
  | [], n => by simp [endsF, fsOf]
  | y :: bs, n => by
    simp only [List.cons_append, endsF, endsF_snoc x bs]
    congr 2
    simp only [fsOf, List.flatMap_cons, List.length_append]
    congr 1
    omega
theorem endsF_len : ∀ (bs : List Bd) (n : Int), (endsF n bs).length = bs.length
  | [], _ => rfl
  | _ :: bs, _ => by simp only [endsF, List.length_cons, endsF_len bs]
theorem mkSg_add {v : Int} {f : List UInt8} {bs : List Bd} {x : Bd} : (mkSg v f bs).add x (frm x.enc).length = mkSg v f (bs ++ [x]) := by
  unfold mkSg Sg.add
  rw [endsF_snoc]
  simp only [Sg.mk.injEq, true_and]
  refine ⟨?_, by simp⟩
  rw [fsOf_app, fsOf_one]; simp
theorem chEnd_last : ∀ (bs : List Bd) (n : Int), chEnd n bs = match bs.getLast? with | some b => b.fin | none => n
  | [], _ => rfl
  | [x], _ => rfl
  | x :: y :: bs, n => by
    rw [chEnd, chEnd_last (y :: bs) x.fin, List.getLast?_cons_cons]
    cases h : (y :: bs).getLast? with
    | none => simp at h
    | some z => rfl
theorem mkSg_fin {v : Int} {f : List UInt8} {bs : List Bd} : (mkSg v f bs).fin = chEnd v bs := (chEnd_last bs v).symm
theorem chain_app : ∀ (xs ys : List Bd) (n : Int), Chain n (xs ++ ys) ↔ Chain n xs ∧ Chain (chEnd n xs) ys
  | [], ys, n => by simp [Chain, chEnd]
  | x :: xs, ys, n => by
    simp only [List.cons_append, Chain, chEnd, chain_app xs ys]
    constructor
    · rintro ⟨a, b, c, d⟩; exact ⟨⟨a, b, c⟩, d⟩
    · rintro ⟨⟨a, b, c⟩, d⟩; exact ⟨a, b, c, d⟩
theorem chEnd_app : ∀ (xs ys : List Bd) (n : Int), chEnd n (xs ++ ys) = chEnd (chEnd n xs) ys
  | [], _, _ => rfl
  | x :: xs, ys, n => by simp only [List.cons_append, chEnd, chEnd_app xs ys]
theorem bd_eq {d e : Dc} (h : d.dat = e.dat) : d.bd = e.bd := by
  unfold Dc.dat at h
  simp only [Prod.mk.injEq] at h
  obtain ⟨h1, h2, h3, h4, h5, h6, h7, h8, h9⟩ := h
  unfold Dc.bd
  rw [h1, h2, h3, h4, h5, h6, h7, h8, h9]
theorem enc_small {x : Bd} (h : x.ok) : x.enc.length ≤ 2000 := encB_len h.2 h.1
theorem step_next {v : Int} {f : List UInt8} {pre post : List Bd} {x : Bd} {rest : List UInt8} (h : Chain v (pre ++ x :: post)) : stepS (fsOf (pre ++ x :: post) ++ rest) (mkSg v f pre) = some (mkSg v f (pre ++ [x])) := by
  obtain ⟨h1, h2, h3, h4⟩ := (chain_app pre (x :: post) v).1 h
  have ed : (fsOf (pre ++ x :: post) ++ rest).drop (mkSg v f pre).bytes.toNat = frm x.enc ++ (fsOf post ++ rest) := by
    have e1 : (mkSg v f pre).bytes.toNat = (fsOf pre).length := by show ((fsOf pre).length : Int).toNat = _; omega
    rw [e1, fsOf_app, List.append_assoc, List.drop_left]
    simp [fsOf]
  have hs := enc_small h3
  have hf := fdec_frm (p := x.enc) (r := fsOf post ++ rest) (by omega)
  have hde := dec_enc (d := x.dc) h3.2 h3.1
  have e2 : encB x.dc = x.enc := rfl
  rw [e2] at hde
  have hbd : (decD x.enc).bd = x := bd_eq hde.2
  have hba : (decD x.enc).ba = x.ba := by have := congrArg Bd.ba hbd; exact this
  unfold stepS
  rw [ed, hf]
  simp only
  rw [if_pos]
  · rw [hbd, ← mkSg_add]
    congr 2
    rw [frm_len]; omega
  · refine ⟨?_, trivial, hde.1, ?_⟩
    · show ((fsOf pre).length : Int) < _
      have e : fsOf (x :: post) = frm x.enc ++ fsOf post := by simp [fsOf]
      rw [List.length_append, fsOf_app, List.length_append, e, List.length_append, frm_len]
      omega
    · rw [hba, mkSg_fin]; exact h2
theorem loadS_chain {v : Int} {f : List UInt8} {rest : List UInt8} : ∀ (post pre : List Bd) (k : Nat), Chain v (pre ++ post) → loadS (fsOf (pre ++ post) ++ rest) (k + post.length) (mkSg v f pre) = loadS (fsOf (pre ++ post) ++ rest) k (mkSg v f (pre ++ post))
  | [], pre, k, _ => by simp
  | x :: post, pre, k, h => by
    have e : k + (x :: post).length = (k + post.length) + 1 := by simp; omega
    rw [e, loadS, step_next h]
    simp only
    have e2 : pre ++ x :: post = (pre ++ [x]) ++ post := by simp
    rw [e2]
    rw [e2] at h
    exact loadS_chain post (pre ++ [x]) k h
theorem fsOf_ge (bs : List Bd) : bs.length * 8 ≤ (fsOf bs).length := by
  induction bs with
  | nil => simp
  | cons x bs ih =>
    have e : fsOf (x :: bs) = frm x.enc ++ fsOf bs := by simp [fsOf]
    rw [e, List.length_append, frm_len, List.length_cons]; omega
theorem ldSg_chain {v : Int} {f : List UInt8} {d : Dk} {bs : List Bd} {rest : List UInt8} (hd : d.dataOf f = fsOf bs ++ rest) (hc : Chain v bs) (hr : stepS (fsOf bs ++ rest) (mkSg v f bs) = none) : ldSg ⟨v, f, 0, [], []⟩ d = mkSg v f bs := by
  unfold ldSg
  simp only
  rw [hd]
  have h1 := fsOf_ge bs
  obtain ⟨k, hk⟩ : ∃ k, (fsOf bs ++ rest).length + 1 = k + bs.length := ⟨(fsOf bs ++ rest).length + 1 - bs.length, by rw [List.length_append]; omega⟩
  rw [hk]
  have := loadS_chain (v := v) (f := f) (rest := rest) bs [] k hc
  rw [List.nil_append] at this
  have e0 : mkSg v f [] = ⟨v, f, 0, [], []⟩ := rfl
  rw [← e0, this, loadS_none hr]
theorem ldFl_chain {v : Int} {f : List UInt8} {d : Dk} {bs : List Bd} (hd : d.dataOf f = fsOf bs) (hc : Chain v bs) : ldFl ⟨v, f, 0, [], []⟩ d = (mkSg v f bs, d, true) := by
  have h1 : ldSg ⟨v, f, 0, [], []⟩ d = mkSg v f bs := ldSg_chain (rest := []) (by rw [List.append_nil]; exact hd) hc (by
    unfold stepS
    rw [if_neg]
    intro h
    have := h.1
    rw [List.append_nil] at this
    exact absurd this (by show ¬ ((fsOf bs).length : Int) < _; omega))
  unfold ldFl
  simp only
  rw [h1, hd, if_neg]
  show ¬ ((fsOf bs).length : Int) < _
  omega
end Go.Proofs.YtbpcichakchpkaaGreatDoor
