/- Texts of mine, put together: SU, SV, SW, SX, SY, SZ. -/
import Derived.Test.YtbpcichakchpkaaGreatDoorE8
import Derived.Test.YtbpcichakchpkaaGreatDoorFSf
/- Layer 8 in plain Lean: batches that follow one another, as they stand in a file. -/
namespace Go.Proofs.YtbpcichakchpkaaGreatDoor
open Go Go.Pk
def Bd.ok (x : Bd) : Prop := x.chk = 0 ∧ x.dc.num
def Chain : Int → List Bd → Prop
  | _, [] => True
  | n, x :: xs => x.ba = n ∧ x.ok ∧ Chain x.fin xs
def chEnd : Int → List Bd → Int
  | n, [] => n
  | _, x :: xs => chEnd x.fin xs
def fsOf (bs : List Bd) : List UInt8 := bs.flatMap fun x => frm x.enc
def endsF : Int → List Bd → List Int
  | _, [] => []
  | n, x :: xs => (n + (frm x.enc).length) :: endsF (n + (frm x.enc).length) xs
/-- a segment, as its batches stand in its file -/
def mkSg (base : Int) (name : List UInt8) (bs : List Bd) : Sg := ⟨base, name, (fsOf bs).length, bs, endsF 0 bs⟩
theorem fsOf_app (x y : List Bd) : fsOf (x ++ y) = fsOf x ++ fsOf y := by simp [fsOf]
theorem fsOf_one (x : Bd) : fsOf [x] = frm x.enc := by simp [fsOf]
theorem endsF_snoc (x : Bd) : ∀ (bs : List Bd) (n : Int), endsF n (bs ++ [x]) = endsF n bs ++ [n + (fsOf bs).length + (frm x.enc).length]
  | [], n => by simp [endsF, fsOf]
  | y :: bs, n => by
    simp only [List.cons_append, endsF, endsF_snoc x bs]
    congr 2
    simp only [fsOf, List.flatMap_cons, List.length_append]
    congr 1
    omega
theorem endsF_len : ∀ (bs : List Bd) (n : Int), (endsF n bs).length = bs.length
  | [], _ => rfl
  | _ :: bs, _ => by simp only [endsF, List.length_cons, endsF_len bs]
theorem mkSg_add {v : Int} {f : List UInt8} {bs : List Bd} {x : Bd} : (mkSg v f bs).add x (frm x.enc).length = mkSg v f (bs ++ [x]) := by
  unfold mkSg Sg.add
  rw [endsF_snoc]
  simp only [Sg.mk.injEq, true_and]
  refine ⟨?_, by simp⟩
  rw [fsOf_app, fsOf_one]; simp
theorem chEnd_last : ∀ (bs : List Bd) (n : Int), chEnd n bs = match bs.getLast? with | some b => b.fin | none => n
  | [], _ => rfl
  | [x], _ => rfl
  | x :: y :: bs, n => by
    rw [chEnd, chEnd_last (y :: bs) x.fin, List.getLast?_cons_cons]
    cases h : (y :: bs).getLast? with
    | none => simp at h
    | some z => rfl
theorem mkSg_fin {v : Int} {f : List UInt8} {bs : List Bd} : (mkSg v f bs).fin = chEnd v bs := (chEnd_last bs v).symm
theorem chain_app : ∀ (xs ys : List Bd) (n : Int), Chain n (xs ++ ys) ↔ Chain n xs ∧ Chain (chEnd n xs) ys
  | [], ys, n => by simp [Chain, chEnd]
  | x :: xs, ys, n => by
    simp only [List.cons_append, Chain, chEnd, chain_app xs ys]
    constructor
    · rintro ⟨a, b, c, d⟩; exact ⟨⟨a, b, c⟩, d⟩
    · rintro ⟨⟨a, b, c⟩, d⟩; exact ⟨a, b, c, d⟩
theorem chEnd_app : ∀ (xs ys : List Bd) (n : Int), chEnd n (xs ++ ys) = chEnd (chEnd n xs) ys
  | [], _, _ => rfl
  | x :: xs, ys, n => by simp only [List.cons_append, chEnd, chEnd_app xs ys]
theorem bd_eq {d e : Dc} (h : d.dat = e.dat) : d.bd = e.bd := by
  unfold Dc.dat at h
  simp only [Prod.mk.injEq] at h
  obtain ⟨h1, h2, h3, h4, h5, h6, h7, h8, h9⟩ := h
  unfold Dc.bd
  rw [h1, h2, h3, h4, h5, h6, h7, h8, h9]
theorem enc_small {x : Bd} (h : x.ok) : x.enc.length ≤ 2000 := encB_len h.2 h.1
theorem step_next {v : Int} {f : List UInt8} {pre post : List Bd} {x : Bd} {rest : List UInt8} (h : Chain v (pre ++ x :: post)) : stepS (fsOf (pre ++ x :: post) ++ rest) (mkSg v f pre) = some (mkSg v f (pre ++ [x])) := by
  obtain ⟨h1, h2, h3, h4⟩ := (chain_app pre (x :: post) v).1 h
  have ed : (fsOf (pre ++ x :: post) ++ rest).drop (mkSg v f pre).bytes.toNat = frm x.enc ++ (fsOf post ++ rest) := by
    have e1 : (mkSg v f pre).bytes.toNat = (fsOf pre).length := by show ((fsOf pre).length : Int).toNat = _; omega
    rw [e1, fsOf_app, List.append_assoc, List.drop_left]
    simp [fsOf]
  have hs := enc_small h3
  have hf := fdec_frm (p := x.enc) (r := fsOf post ++ rest) (by omega)
  have hde := dec_enc (d := x.dc) h3.2 h3.1
  have e2 : encB x.dc = x.enc := rfl
  rw [e2] at hde
  have hbd : (decD x.enc).bd = x := bd_eq hde.2
  have hba : (decD x.enc).ba = x.ba := by have := congrArg Bd.ba hbd; exact this
  unfold stepS
  rw [ed, hf]
  simp only
  rw [if_pos]
  · rw [hbd, ← mkSg_add]
    congr 2
    rw [frm_len]; omega
  · refine ⟨?_, trivial, hde.1, ?_⟩
    · show ((fsOf pre).length : Int) < _
      have e : fsOf (x :: post) = frm x.enc ++ fsOf post := by simp [fsOf]
      rw [List.length_append, fsOf_app, List.length_append, e, List.length_append, frm_len]
      omega
    · rw [hba, mkSg_fin]; exact h2
theorem loadS_chain {v : Int} {f : List UInt8} {rest : List UInt8} : ∀ (post pre : List Bd) (k : Nat), Chain v (pre ++ post) → loadS (fsOf (pre ++ post) ++ rest) (k + post.length) (mkSg v f pre) = loadS (fsOf (pre ++ post) ++ rest) k (mkSg v f (pre ++ post))
  | [], pre, k, _ => by simp
  | x :: post, pre, k, h => by
    have e : k + (x :: post).length = (k + post.length) + 1 := by simp; omega
    rw [e, loadS, step_next h]
    simp only
    have e2 : pre ++ x :: post = (pre ++ [x]) ++ post := by simp
    rw [e2]
    rw [e2] at h
    exact loadS_chain post (pre ++ [x]) k h
theorem fsOf_ge (bs : List Bd) : bs.length * 8 ≤ (fsOf bs).length := by
  induction bs with
  | nil => simp
  | cons x bs ih =>
    have e : fsOf (x :: bs) = frm x.enc ++ fsOf bs := by simp [fsOf]
    rw [e, List.length_append, frm_len, List.length_cons]; omega
theorem ldSg_chain {v : Int} {f : List UInt8} {d : Dk} {bs : List Bd} {rest : List UInt8} (hd : d.dataOf f = fsOf bs ++ rest) (hc : Chain v bs) (hr : stepS (fsOf bs ++ rest) (mkSg v f bs) = none) : ldSg ⟨v, f, 0, [], []⟩ d = mkSg v f bs := by
  unfold ldSg
  simp only
  rw [hd]
  have h1 := fsOf_ge bs
  obtain ⟨k, hk⟩ : ∃ k, (fsOf bs ++ rest).length + 1 = k + bs.length := ⟨(fsOf bs ++ rest).length + 1 - bs.length, by rw [List.length_append]; omega⟩
  rw [hk]
  have := loadS_chain (v := v) (f := f) (rest := rest) bs [] k hc
  rw [List.nil_append] at this
  have e0 : mkSg v f [] = ⟨v, f, 0, [], []⟩ := rfl
  rw [← e0, this, loadS_none hr]
theorem ldFl_chain {v : Int} {f : List UInt8} {d : Dk} {bs : List Bd} (hd : d.dataOf f = fsOf bs) (hc : Chain v bs) : ldFl ⟨v, f, 0, [], []⟩ d = (mkSg v f bs, d, true) := by
  have h1 : ldSg ⟨v, f, 0, [], []⟩ d = mkSg v f bs := ldSg_chain (rest := []) (by rw [List.append_nil]; exact hd) hc (by
    unfold stepS
    rw [if_neg]
    intro h
    have := h.1
    rw [List.append_nil] at this
    exact absurd this (by show ¬ ((fsOf bs).length : Int) < _; omega))
  unfold ldFl
  simp only
  rw [h1, hd, if_neg]
  show ¬ ((fsOf bs).length : Int) < _
  omega
end Go.Proofs.YtbpcichakchpkaaGreatDoor

/- Layer 8: a log that there isn't; the law's first look: a batch is laid, flushed, and there behind a crash. -/
namespace Go.Proofs.YtbpcichakchpkaaGreatDoor
open Go Go.Pk
section
variable {W w : World} {l : List Res} {K : Value → World → Prop} {a b : Nat} {g : Lg}
theorem tup2p {a : Option Addr} {e : Int} {K : Option Addr × Int × Unit → Prop} (h : K (a, e, ())) : TupP [.ptr, .int .i64] (.tuple #[.pointer a, .int .i64 e]) K := ⟨_, rfl, h⟩
/-! ### the first look -/
def aN : List UInt8 := [112, 48]
def aF : List UInt8 := [112, 48, 46, 48, 48, 48, 48, 48, 48, 48, 48]
def aB : Bd := ⟨0, 0, 0, 0, 0, false, false, false, [[], [], []]⟩
def aG0 : Lg := ⟨aN, [], 0⟩
noncomputable def aG1 : Lg := ⟨aN, [mkSg 0 aF [aB]], 0⟩
noncomputable def aG2 : Lg := ⟨aN, [mkSg 0 aF [aB]], 3⟩
noncomputable def aE : List UInt8 := frm aB.enc
noncomputable def aD1 (s : Int) : Dk := ⟨[(aF, ⟨aE, s⟩)], -1, false, aE.length⟩
theorem aB_ok : aB.ok := by
  refine ⟨?_, by unfold Dc.num aB Bd.dc; simp⟩
  show chk aB.dc = 0
  unfold chk
  rw [if_neg (by unfold bad1 aB Bd.dc; simp), if_neg (by unfold bad7 aB Bd.dc; simp), if_neg (by unfold bad2 aB Bd.dc; simp)]
theorem aFile : aG0.file 0 = aF := by decide +kernel
theorem aBase : fileBase ⟨aN, [], 0⟩ aF = some 0 := by decide +kernel
theorem aE_len : 8 ≤ aE.length ∧ aE.length ≤ 2008 := by
  have := enc_small aB_ok
  have e : aE.length = 8 + aB.enc.length := frm_len _
  omega
theorem aOpen0 : opLg aN Dk.new = aG0 ∧ opDk aN Dk.new = Dk.new := by
  have e : opAll aN Dk.new = ⟨⟨aN, [], 0⟩, Dk.new, true⟩ := by
    unfold opAll
    have : srt Dk.new.names = [] := by simp [srt, Dk.new, Dk.names]
    rw [this]; rfl
  unfold opLg opDk
  rw [e]
  exact ⟨rfl, rfl⟩
theorem aRoll : aG0.roll Dk.new = (⟨aN, [mkSg 0 aF []], 0⟩, ⟨[(aF, ⟨[], 0⟩)], -1, false, 0⟩, 0) := by
  have e0 : aG0.fin = 0 := rfl
  have e1 : Dk.new.append aF [] = (⟨[(aF, ⟨[], 0⟩)], -1, false, 0⟩, 0) := by
    simp [Dk.append, Dk.new, Dk.look, Dk.lookL, Dk.fl0, Dk.fits, Dk.putL, aF]
  unfold Lg.roll
  show aG0.grow Dk.new = _
  unfold Lg.grow
  rw [e0, aFile, e1]
  rfl
theorem aPut : aG0.put Dk.new aB = (aG1, aD1 0, 0) := by
  have hl := aE_len
  have e1 : (⟨[(aF, ⟨[], 0⟩)], -1, false, 0⟩ : Dk).append aF aE = (aD1 0, 0) := by
    have hlt : ¬ ((aE.length : Int) > 4194304) := by omega
    simp [Dk.append, Dk.look, Dk.lookL, Dk.fl0, Dk.fits, Dk.putL, aD1, aF, hlt]
  unfold Lg.put
  rw [if_neg (by simp [aB_ok.1]), if_neg (by simp [aB, aG0, Lg.fin]), aRoll]
  simp only
  rw [if_neg (by simp)]
  have e2 : [mkSg 0 aF []].getLast? = some (mkSg 0 aF []) := rfl
  rw [e2]
  simp only
  have e3 : (mkSg 0 aF []).name = aF := rfl
  have e4 : frm aB.enc = aE := rfl
  rw [e3, e4, e1]
  simp only [if_true]
  rw [← e4, mkSg_add]
  rfl
theorem aFlush : aG1.flush (aD1 0) = (aG2, aD1 aE.length, 0) := by
  have e1 : (aD1 0).sync aF = (aD1 aE.length, 0) := by
    simp [Dk.sync, Dk.find, Dk.look, Dk.lookL, aD1, Dk.putL]
  unfold Lg.flush
  have e2 : aG1.segs.getLast? = some (mkSg 0 aF [aB]) := rfl
  have e3 : (mkSg 0 aF [aB]).name = aF := rfl
  rw [e2]
  simp only [e3, e1, if_true]
  rfl
theorem aCrash : (aD1 aE.length).crash 0 = aD1 aE.length := by
  have e : Dk.crashF 0 ⟨aE, aE.length⟩ = ⟨aE, aE.length⟩ := by
    have e0 : IntKind.u64.wrap 0 = 0 := by decide
    simp [Dk.crashF, e0]
  simp [Dk.crash, aD1, e]
theorem aChain : Chain 0 [aB] := ⟨rfl, aB_ok, trivial⟩
theorem aOpen1 : (opLg aN (aD1 aE.length)).segs = [mkSg 0 aF [aB]] := by
  have hd : (aD1 aE.length).dataOf aF = fsOf [aB] := by
    rw [fsOf_one]
    simp [Dk.dataOf, Dk.find, Dk.look, Dk.lookL, aD1, aE]
  have e : opAll aN (aD1 aE.length) = ⟨⟨aN, [mkSg 0 aF [aB]], 0⟩, aD1 aE.length, true⟩ := by
    unfold opAll
    have e1 : srt (aD1 aE.length).names = [aF] := by simp [srt, aD1, Dk.names]
    rw [e1]
    show OpS.file ⟨⟨aN, [], 0⟩, aD1 aE.length, true⟩ aF = _
    unfold OpS.file
    rw [show fileBase (⟨⟨aN, [], 0⟩, aD1 aE.length, true⟩ : OpS).g aF = some 0 from aBase]
    simp only
    rw [if_neg (by simp), ldFl_chain hd aChain]
    rfl
  unfold opLg
  rw [e]
theorem aNm {s : Int} : NmOk aN (aD1 s) := by
  intro f hf v hv
  have : f = aF := by simpa [aD1, Dk.names] using hf
  subst this
  rw [aBase] at hv
  cases hv
  decide
theorem awake8_ok (h : Sat W w l) (hl : Lai W l) (hK : ∀ w', Sat W w' l → K (.bool true) w') : CallP P F_law08_awake [] w K := by
  apply c_law08_awake
  unfold S_law08_awake
  refine dkNew_ok h fun b w1 h1 => tyI (k := .ptr) ?_
  have hn : aN ≠ [] ∧ aN.length ≤ 8 ∧ ¬ 46 ∈ aN := by unfold aN; simp
  refine open_ok (n := aN) h1 hl rfl hn (fun f hf => by simp [Dk.new, Dk.names] at hf) (by simp [Dk.new]) (fun f hf => by simp [Dk.new, Dk.names] at hf) fun a w4 _ _ h2 => tup2p ?_
  rw [aOpen0.1, aOpen0.2] at h2
  have hbe := aB_ok
  have hel := aE_len
  have hG1 : ∀ s ∈ aG1.segs, s = mkSg 0 aF [aB] := fun s hs => by simpa [aG1] using hs
  have hB0 : LgB aG0 := fun s hs => by cases hs
  have hB1 : LgB aG1 := fun s hs x hx => by
    rw [hG1 s hs] at hx
    have : x = aB := by simpa [mkSg] using hx
    subst this
    decide
  refine ⟨fun _ w' => Sat W w' (LgR a b aG2 :: DkR b (aD1 aE.length) :: l), ?_, ?_⟩
  · rintro _ w8 h3
    refine crash_ok (keep := 0) h3.swap fun w24 h4 => tupU rfl ?_
    rw [aCrash] at h4
    refine open_ok (n := aN) h4 hl.cons rfl hn aNm (by simp [aD1]) (fun f hf => by
      have : f = aF := by simpa [aD1, Dk.names] using hf
      subst this; decide) fun a2 w27 hI _ h5 => tup2p ?_
    refine ifB_intro (fun _ => ?_) fun c => absurd c (by simp)
    refine ifB_beq (fun _ => ?_) fun c => absurd rfl c
    refine fin_ok h5 hI.b fun w30 h6 => tyI (k := .int .i64) ?_
    have ef : (opLg aN (aD1 aE.length)).fin = 3 := by
      unfold Lg.fin; rw [aOpen1]; rfl
    rw [ef]
    refine ifB_beq (fun _ => ?_) fun c => absurd rfl c
    have er : segB 0 (opLg aN (aD1 aE.length)).segs = [aB] := by
      rw [aOpen1]
      rfl
    refine read_ok (frm := 0) (n := 9) h6 hI.b hI.c (by rw [aOpen1]; decide) (by rw [er]; decide) hI.r fun s w33 h7 => tyI (k := .sl) ?_
    have hlen := (Sat.btLen h7).1
    have e : (opLg aN (aD1 aE.length)).read 0 9 = [aB] := by unfold Lg.read; rw [er]; rfl
    rw [e] at hlen
    have e1 : ((s.len : Nat) : Int) = 1 := by rw [hlen]; rfl
    rw [e1]
    exact hK w33 h7.tail.tail.tail.tail
  · refine ifB_intro (fun c => absurd c (by simp)) fun _ => ?_
    refine ifB_bne (fun c => absurd rfl c) fun _ => ?_
    refine bsB h2 (cs := [Sl.v ⟨none, 0, 0⟩, Sl.v ⟨none, 0, 0⟩, Sl.v ⟨none, 0, 0⟩]) (e := T_sl_uint8) (fun w => by kernel_rfl) fun gb w10 h3 => ?_
    let d : Dc := ⟨0, 0, 0, 0, 0, false, false, false, ⟨some ⟨gb, 0, none⟩, 3, 3⟩, [⟨none, 0, 0⟩, ⟨none, 0, 0⟩, ⟨none, 0, 0⟩], [[], [], []]⟩
    have hv : VRd W (Blk gb [Sl.v ⟨none, 0, 0⟩, Sl.v ⟨none, 0, 0⟩, Sl.v ⟨none, 0, 0⟩] T_sl_uint8 :: l) d := by
      refine ⟨Rd.blk (n := 3) (sz := 1) rfl, rfl, fun i s b0 h1 h2 => ?_⟩
      have hs : s = ⟨none, 0, 0⟩ ∧ b0 = [] := by
        match i with
        | 0 => exact ⟨(Option.some.inj h1).symm, (Option.some.inj h2).symm⟩
        | 1 => exact ⟨(Option.some.inj h1).symm, (Option.some.inj h2).symm⟩
        | 2 => exact ⟨(Option.some.inj h1).symm, (Option.some.inj h2).symm⟩
        | n + 3 => cases h1
      rw [hs.1, hs.2]
      exact Rd.nil rfl
    have h4 : Sat W w10 (LgR a b aG0 :: DkR b Dk.new :: Blk gb [Sl.v ⟨none, 0, 0⟩, Sl.v ⟨none, 0, 0⟩, Sl.v ⟨none, 0, 0⟩] T_sl_uint8 :: l) := h3.sel 3 [1, 2, 0]
    have hnum : d.num := hbe.2
    refine put_ok (d := d) h4 hl.cons hnum hv hB0 (fun s hs => by cases hs) (by decide) (by decide) (by decide) fun w12 h5 => tyI (k := .int .i64) ?_
    have ep : aG0.put Dk.new d.bd = (aG1, aD1 0, 0) := aPut
    rw [ep] at h5
    rw [ep]
    refine ifB_bne (fun c => absurd rfl c) fun _ => ?_
    refine fin_ok h5 hB1 fun w15 h6 => tyI (k := .int .i64) ?_
    have ef : aG1.fin = 3 := rfl
    rw [ef]
    refine ifB_bne (fun c => absurd rfl c) fun _ => ?_
    refine synced_ok h6 (tyI (k := .int .i64) ?_)
    refine ifB_bne (fun c => absurd rfl c) fun _ => ?_
    refine flush_ok h6 hB1 fun w21 h7 => tyI (k := .int .i64) ?_
    rw [aFlush] at h7
    rw [aFlush]
    refine ifB_bne (fun c => absurd rfl c) fun _ => ?_
    exact h7.cut 2
end
end Go.Proofs.YtbpcichakchpkaaGreatDoor

/- Layer 8: the reference's check sums and frames. -/
namespace Go.Pk
open Go
end Go.Pk
namespace Go.Proofs.YtbpcichakchpkaaGreatDoor
open Go Go.Pk
section
variable {W w : World} {l : List Res} {K : Value → World → Prop}
end
end Go.Proofs.YtbpcichakchpkaaGreatDoor

/- Layer 8: the reference's log in memory; lists of batches are compared. -/
namespace Go.Proofs.YtbpcichakchpkaaGreatDoor
open Go Go.Pk
structure Rl where
  list : List Bd
  bases : List Int
  sync : Int
namespace Rl
def start (r : Rl) : Int := match r.bases with | b :: _ => b | [] => 0
def fin (r : Rl) : Int := match r.list.getLast? with | some b => b.fin | none => r.start
def bytes (r : Rl) (n : Int) : Int := ((fsOf (r.list.filter fun x => decide (n ≤ x.ba))).length : Nat)
def read (r : Rl) (n k : Int) : List Bd := (behind n r.list).take k.toNat
noncomputable def put (r : Rl) (b : Bd) : Rl × Int :=
  if b.chk ≠ 0 then (r, b.chk) else if b.ba ≠ r.fin then (r, 13) else match r.bases.getLast? with
  | none => ({ r with list := r.list ++ [b], bases := [0] }, 0)
  | some n => if r.bytes n ≥ 512 then (⟨r.list ++ [b], r.bases ++ [b.ba], r.fin⟩, 0) else ({ r with list := r.list ++ [b] }, 0)
end Rl
section
variable {W w : World} {l : List Res} {K : Value → World → Prop} {a : Nat} {r : Rl} {ls bs : Sl} {ds : List Dc}
theorem fsOf_le (bs : List Bd) (h : ∀ x ∈ bs, x.ok) : (fsOf bs).length ≤ 2008 * bs.length := by
  induction bs with
  | nil => simp [fsOf]
  | cons x bs ih =>
    have e : fsOf (x :: bs) = frm x.enc ++ fsOf bs := by simp [fsOf]
    have h1 := enc_small (h x (by simp))
    have h2 := ih fun y hy => h y (by simp [hy])
    rw [e, List.length_append, frm_len, List.length_cons]; omega
end
end Go.Proofs.YtbpcichakchpkaaGreatDoor

/- Layer 8: the reference's log is read and grows; lists are compared. -/
namespace Go.Proofs.YtbpcichakchpkaaGreatDoor
open Go Go.Pk
theorem bd_dat {d e : Dc} : d.dat = e.dat ↔ d.bd = e.bd := by
  constructor
  · exact bd_eq
  · intro h
    unfold Dc.bd at h
    simp only [Bd.mk.injEq] at h
    obtain ⟨h1, h2, h3, h4, h5, h6, h7, h8, h9⟩ := h
    unfold Dc.dat
    rw [h1, h2, h3, h4, h5, h6, h7, h8, h9]
section
variable {W w : World} {l : List Res} {K : Value → World → Prop} {a : Nat} {r : Rl} {ls bs : Sl} {ds : List Dc}
theorem samelist_ok {x y : Sl} {es fs : List Dc} (h : Sat W w l) (hx : Rd W l x 9 (elB.flat es)) (hy : Rd W l y 9 (elB.flat fs)) (hvx : ∀ d ∈ es, VRd W l d) (hvy : ∀ d ∈ fs, VRd W l d) (hsx : ∀ d ∈ es, d.bs.length ≤ 16 ∧ ∀ v ∈ d.bs, v.length ≤ 64)
    (hle : es.length ≤ 1073741824) (hK : ∀ w', Sat W w' l → K (.bool (@decide (es.map Dc.bd = fs.map Dc.bd) (Classical.propDecidable _))) w') : CallP P F_ref07_SameList [x.v, y.v] w K := by
  apply c_ref07_SameList
  unfold S_ref07_SameList
  have hxr := hx w h
  have hyr := hy w h
  have hxl : x.len = es.length := by have h1 := hxr.1; have h2 := flat_length (E := elB) es; have e : elB.sz = 9 := rfl; rw [e] at h2; omega
  have hyl : y.len = fs.length := by have h1 := hyr.1; have h2 := flat_length (E := elB) fs; have e : elB.sz = 9 := rfl; rw [e] at h2; omega
  refine ifB_bne (fun c => ?_) fun c => ?_
  · have := hK w h
    rw [@decide_eq_false _ (Classical.propDecidable _) (fun he => c (by have := congrArg List.length he; simp at this; omega))] at this
    exact this
  · refine ⟨fun t w' => ∃ i : Nat, t.1 = i ∧ i ≤ es.length ∧ (es.take i).map Dc.bd = (fs.take i).map Dc.bd ∧ Sat W w' l, fun t _ => es.length - t.1.toNat, ⟨0, rfl, Nat.zero_le _, by simp, h⟩, ?_⟩
    rintro ⟨ti, u⟩ w2 ⟨i, hi, hil, heq, h1⟩
    simp only at hi ⊢
    subst hi
    refine ifB_dec (fun hlt => ?_) fun hge => ?_
    · have hlt' : i < es.length := by omega
      have hd : es[i]? = some es[i] := List.getElem?_eq_getElem hlt'
      have he : fs[i]? = some fs[i] := List.getElem?_eq_getElem (by omega)
      have hdm := List.getElem_mem hlt'
      have hem := List.getElem_mem (l := fs) (n := i) (by omega)
      generalize es[i] = d at hd hdm
      generalize fs[i] = e at he hem
      have ei : ((i : Int)).toNat = i := by omega
      refine ⟨fun w => Sat W w l, h1.drew, ?_⟩
      refine hixEl et_batches (E := elB) rfl (fun w hw => hx w hw) h1.drew (by omega) (x := d) (by rw [ei]; exact hd) (by omega) fun a1 ha1 => ?_
      refine hldAggC (cs := elB.cells d) ha1 ?_
      refine hixEl et_batches (E := elB) rfl (fun w hw => hy w hw) h1.drew (by omega) (x := e) (by rw [ei]; exact he) (by omega) fun a2 ha2 => ?_
      refine hldAggC (cs := elB.cells e) ha2 ?_
      have hsd := hsx d hdm
      refine rsame_ok (d1 := d) (d2 := e) h1.drew (hvx d hdm) (hvy e hem) (fun b hb => by have := hsd.2 b hb; omega) (by omega) fun w9 h2 => tyI (k := .bool) ⟨h2, ?_⟩
      rw [w_i64 (n := (i : Int) + 1) (by omega) (by omega)]
      refine ifB_not ?_
      by_cases hde : d.dat = e.dat
      · rw [dsame_yes hde]
        refine ⟨⟨i + 1, by show (i : Int) + 1 = _; omega, by omega, ?_, h2⟩, by show es.length - ((i : Int) + 1).toNat < es.length - (i : Int).toNat; omega⟩
        rw [take_next hd, take_next he, List.map_append, List.map_append, heq]
        simp only [List.map_cons, List.map_nil]
        rw [bd_dat.1 hde]
      · rw [dsame_no hde]
        have := hK w9 h2
        rw [@decide_eq_false _ (Classical.propDecidable _) (fun hh => hde (bd_dat.2 (by
          have h3 := congrArg (·[i]?) hh
          simp only [List.getElem?_map, hd, he, Option.map_some] at h3
          exact Option.some.inj h3)))] at this
        exact this
    · have e1 : es.take i = es := List.take_of_length_le (by omega)
      have e2 : fs.take i = fs := List.take_of_length_le (by omega)
      rw [e1, e2] at heq
      have := hK w2 h1
      rw [@decide_eq_true _ (Classical.propDecidable _) heq] at this
      exact this
end
end Go.Proofs.YtbpcichakchpkaaGreatDoor

/- Layer 8: a batch is laid in the reference's log. -/
namespace Go.Proofs.YtbpcichakchpkaaGreatDoor
open Go Go.Pk
/-- the reference's segments ahead of a batch -/
def Rl.pre (r : Rl) (ba : Int) : Rl := match r.bases.getLast? with
  | none => { r with bases := [0] }
  | some n => if r.bytes n ≥ 512 then ⟨r.list, r.bases ++ [ba], r.fin⟩ else r
section
variable {W w : World} {l : List Res} {K : Value → World → Prop} {a : Nat} {r : Rl} {ls bs : Sl} {ds : List Dc}
end
end Go.Proofs.YtbpcichakchpkaaGreatDoor
