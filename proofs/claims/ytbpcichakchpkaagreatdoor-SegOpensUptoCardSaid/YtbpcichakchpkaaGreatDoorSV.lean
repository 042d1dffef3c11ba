/- Layer 8: a log that there isn't; the law's first look: a batch is laid, flushed, and there behind a crash. -/
import Derived.Test.YtbpcichakchpkaaGreatDoorSU
import Derived.Test.YtbpcichakchpkaaGreatDoorFSf
namespace Go.Proofs.YtbpcichakchpkaaGreatDoor
open Go Go.Pk
section
variable {W w : World} {l : List Res} {K : Value → World → Prop} {a b : Nat} {g : Lg}
theorem tup2p {a : Option Addr} {e : Int} {K : Option Addr × Int × Unit → Prop} (h : K (a, e, ())) : TupP [.ptr, .int .i64] (.tuple #[.pointer a, .int .i64 e]) K := ⟨_, rfl, h⟩
theorem putNil_ok {v : Value} (h : Sat W w l) (hK : ∀ w', Sat W w' l → K (.int .i64 5) w') : CallP P F_seglog_Log_Put [.pointer none, v] w K := by
  apply c_seglog_Log_Put
  unfold S_seglog_Log_Put
  refine boxB h fun a0 w1 h1 => ?_
  exact ifB_intro (fun _ => hK w1 h1.tail) fun c => absurd c (by simp)
theorem flushNil_ok (hK : K (.int .i64 5) w) : CallP P F_seglog_Log_Flush [.pointer none] w K := by
  apply c_seglog_Log_Flush
  unfold S_seglog_Log_Flush
  exact ifB_intro (fun _ => hK) fun c => absurd c (by simp)
theorem readNil_ok {x y : Int} (hK : K (.slice none 0 0) w) : CallP P F_seglog_Log_Read [.pointer none, .int .i64 x, .int .i64 y] w K := by
  apply c_seglog_Log_Read
  unfold S_seglog_Log_Read
  exact ifB_intro (fun _ => hK) fun c => absurd c (by simp)
theorem segmentsNil_ok (hK : K (.slice none 0 0) w) : CallP P F_seglog_Log_Segments [.pointer none] w K := by
  apply c_seglog_Log_Segments
  unfold S_seglog_Log_Segments
  exact ifB_intro (fun _ => hK) fun c => absurd c (by simp)
theorem truncNil_ok {x : Int} (hK : K (.int .i64 5) w) : CallP P F_seglog_Log_Truncate [.pointer none, .int .i64 x] w K := by
  apply c_seglog_Log_Truncate
  unfold S_seglog_Log_Truncate
  first
    | exact ifB_intro (fun _ => hK) fun c => absurd c (by simp)
    | exact ⟨fun _ _ => False, fun _ _ h => h.elim, ifB_intro (fun _ => hK) fun c => absurd c (by simp)⟩
theorem dropNil_ok {x : Int} (hK : K (.int .i64 5) w) : CallP P F_seglog_Log_Drop [.pointer none, .int .i64 x] w K := by
  apply c_seglog_Log_Drop
  unfold S_seglog_Log_Drop
  exact ifB_intro (fun _ => hK) fun c => absurd c (by simp)
theorem startNil_ok (hK : K (.int .i64 0) w) : CallP P F_seglog_Log_Start [.pointer none] w K := by
  apply c_seglog_Log_Start
  unfold S_seglog_Log_Start
  exact ⟨fun _ _ => False, fun _ _ h => h.elim, ifB_intro (fun _ => hK) fun c => absurd c (by simp)⟩
theorem endNil_ok (hK : K (.int .i64 0) w) : CallP P F_seglog_Log_End [.pointer none] w K := by
  apply c_seglog_Log_End
  unfold S_seglog_Log_End
  exact ⟨fun _ _ => False, fun _ _ h => h.elim, ifB_intro (fun _ => hK) fun c => absurd c (by simp)⟩
theorem syncedNil_ok (hK : K (.int .i64 0) w) : CallP P F_seglog_Log_Synced [.pointer none] w K := by
  apply c_seglog_Log_Synced
  unfold S_seglog_Log_Synced
  exact ifB_intro (fun _ => hK) fun c => absurd c (by simp)
/-! ### the first look -/
def aN : List UInt8 := [112, 48]
def aF : List UInt8 := [112, 48, 46, 48, 48, 48, 48, 48, 48, 48, 48]
def aB : Bd := ⟨0, 0, 0, 0, 0, false, false, false, [[], [], []]⟩
def aG0 : Lg := ⟨aN, [], 0⟩
noncomputable def aG1 : Lg := ⟨aN, [mkSg 0 aF [aB]], 0⟩
noncomputable def aG2 : Lg := ⟨aN, [mkSg 0 aF [aB]], 3⟩
noncomputable def aE : List UInt8 := frm aB.enc
noncomputable def aD1 (s : Int) : Dk := ⟨[(aF, ⟨aE, s⟩)], -1, false, aE.length⟩
theorem aB_ok : aB.ok := by
  refine ⟨?_, by unfold Dc.num aB Bd.dc; simp⟩
  show chk aB.dc = 0
  unfold chk
  rw [if_neg (by unfold bad1 aB Bd.dc; simp), if_neg (by unfold bad7 aB Bd.dc; simp), if_neg (by unfold bad2 aB Bd.dc; simp)]
theorem aFile : aG0.file 0 = aF := by decide +kernel
theorem aBase : fileBase ⟨aN, [], 0⟩ aF = some 0 := by decide +kernel
theorem aE_len : 8 ≤ aE.length ∧ aE.length ≤ 2008 := by
  have := enc_small aB_ok
  have e : aE.length = 8 + aB.enc.length := frm_len _
  omega
theorem aLook {s : Int} : (aD1 s).look aF = some ⟨aE, s⟩ := by simp [aD1, Dk.look, Dk.lookL]
theorem aOpen0 : opLg aN Dk.new = aG0 ∧ opDk aN Dk.new = Dk.new := by
  have e : opAll aN Dk.new = ⟨⟨aN, [], 0⟩, Dk.new, true⟩ := by
    unfold opAll
    have : srt Dk.new.names = [] := by simp [srt, Dk.new, Dk.names]
    rw [this]; rfl
  unfold opLg opDk
  rw [e]
  exact ⟨rfl, rfl⟩
theorem aRoll : aG0.roll Dk.new = (⟨aN, [mkSg 0 aF []], 0⟩, ⟨[(aF, ⟨[], 0⟩)], -1, false, 0⟩, 0) := by
  have e0 : aG0.fin = 0 := rfl
  have e1 : Dk.new.append aF [] = (⟨[(aF, ⟨[], 0⟩)], -1, false, 0⟩, 0) := by
    simp [Dk.append, Dk.new, Dk.look, Dk.lookL, Dk.fl0, Dk.fits, Dk.putL, aF]
  unfold Lg.roll
  show aG0.grow Dk.new = _
  unfold Lg.grow
  rw [e0, aFile, e1]
  rfl
theorem aPut : aG0.put Dk.new aB = (aG1, aD1 0, 0) := by
  have hl := aE_len
  have e1 : (⟨[(aF, ⟨[], 0⟩)], -1, false, 0⟩ : Dk).append aF aE = (aD1 0, 0) := by
    have hlt : ¬ ((aE.length : Int) > 4194304) := by omega
    simp [Dk.append, Dk.look, Dk.lookL, Dk.fl0, Dk.fits, Dk.putL, aD1, aF, hlt]
  unfold Lg.put
  rw [if_neg (by simp [aB_ok.1]), if_neg (by simp [aB, aG0, Lg.fin]), aRoll]
  simp only
  rw [if_neg (by simp)]
  have e2 : [mkSg 0 aF []].getLast? = some (mkSg 0 aF []) := rfl
  rw [e2]
  simp only
  have e3 : (mkSg 0 aF []).name = aF := rfl
  have e4 : frm aB.enc = aE := rfl
  rw [e3, e4, e1]
  simp only [if_true]
  rw [← e4, mkSg_add]
  rfl
theorem aFlush : aG1.flush (aD1 0) = (aG2, aD1 aE.length, 0) := by
  have e1 : (aD1 0).sync aF = (aD1 aE.length, 0) := by
    simp [Dk.sync, Dk.find, Dk.look, Dk.lookL, aD1, Dk.putL]
  unfold Lg.flush
  have e2 : aG1.segs.getLast? = some (mkSg 0 aF [aB]) := rfl
  have e3 : (mkSg 0 aF [aB]).name = aF := rfl
  rw [e2]
  simp only [e3, e1, if_true]
  rfl
theorem aCrash : (aD1 aE.length).crash 0 = aD1 aE.length := by
  have e : Dk.crashF 0 ⟨aE, aE.length⟩ = ⟨aE, aE.length⟩ := by
    have e0 : IntKind.u64.wrap 0 = 0 := by decide
    simp [Dk.crashF, e0]
  simp [Dk.crash, aD1, e]
theorem aChain : Chain 0 [aB] := ⟨rfl, aB_ok, trivial⟩
theorem aOpen1 : (opLg aN (aD1 aE.length)).segs = [mkSg 0 aF [aB]] := by
  have hd : (aD1 aE.length).dataOf aF = fsOf [aB] := by
    rw [fsOf_one]
    simp [Dk.dataOf, Dk.find, Dk.look, Dk.lookL, aD1, aE]
  have e : opAll aN (aD1 aE.length) = ⟨⟨aN, [mkSg 0 aF [aB]], 0⟩, aD1 aE.length, true⟩ := by
    unfold opAll
    have e1 : srt (aD1 aE.length).names = [aF] := by simp [srt, aD1, Dk.names]
    rw [e1]
    show OpS.file ⟨⟨aN, [], 0⟩, aD1 aE.length, true⟩ aF = _
    unfold OpS.file
    rw [show fileBase (⟨⟨aN, [], 0⟩, aD1 aE.length, true⟩ : OpS).g aF = some 0 from aBase]
    simp only
    rw [if_neg (by simp), ldFl_chain hd aChain]
    rfl
  unfold opLg
  rw [e]
theorem aNm {s : Int} : NmOk aN (aD1 s) := by
  intro f hf v hv
  have : f = aF := by simpa [aD1, Dk.names] using hf
  subst this
  rw [aBase] at hv
  cases hv
  decide
theorem srtOne {x : List UInt8} : True := trivial
theorem awake8_ok (h : Sat W w l) (hl : Lai W l) (hK : ∀ w', Sat W w' l → K (.bool true) w') : CallP P F_law08_awake [] w K := by
  apply c_law08_awake
  unfold S_law08_awake
  refine dkNew_ok h fun b w1 h1 => tyI (k := .ptr) ?_
  have hn : aN ≠ [] ∧ aN.length ≤ 8 ∧ ¬ 46 ∈ aN := by unfold aN; simp
  refine open_ok (n := aN) h1 hl rfl hn (fun f hf => by simp [Dk.new, Dk.names] at hf) (by simp [Dk.new]) (fun f hf => by simp [Dk.new, Dk.names] at hf) fun a w4 _ _ h2 => tup2p ?_
  rw [aOpen0.1, aOpen0.2] at h2
  have hbe := aB_ok
  have hel := aE_len
  have hG1 : ∀ s ∈ aG1.segs, s = mkSg 0 aF [aB] := fun s hs => by simpa [aG1] using hs
  have hB0 : LgB aG0 := fun s hs => by cases hs
  have hB1 : LgB aG1 := fun s hs x hx => by
    rw [hG1 s hs] at hx
    have : x = aB := by simpa [mkSg] using hx
    subst this
    decide
  refine ⟨fun _ w' => Sat W w' (LgR a b aG2 :: DkR b (aD1 aE.length) :: l), ?_, ?_⟩
  · rintro _ w8 h3
    refine crash_ok (keep := 0) h3.swap fun w24 h4 => tupU rfl ?_
    rw [aCrash] at h4
    refine open_ok (n := aN) h4 hl.cons rfl hn aNm (by simp [aD1]) (fun f hf => by
      have : f = aF := by simpa [aD1, Dk.names] using hf
      subst this; decide) fun a2 w27 hI _ h5 => tup2p ?_
    refine ifB_intro (fun _ => ?_) fun c => absurd c (by simp)
    refine ifB_beq (fun _ => ?_) fun c => absurd rfl c
    refine fin_ok h5 hI.b fun w30 h6 => tyI (k := .int .i64) ?_
    have ef : (opLg aN (aD1 aE.length)).fin = 3 := by
      unfold Lg.fin; rw [aOpen1]; rfl
    rw [ef]
    refine ifB_beq (fun _ => ?_) fun c => absurd rfl c
    have er : segB 0 (opLg aN (aD1 aE.length)).segs = [aB] := by
      rw [aOpen1]
      rfl
    refine read_ok (frm := 0) (n := 9) h6 hI.b hI.c (by rw [aOpen1]; decide) (by rw [er]; decide) hI.r fun s w33 h7 => tyI (k := .sl) ?_
    have hlen := (Sat.btLen h7).1
    have e : (opLg aN (aD1 aE.length)).read 0 9 = [aB] := by unfold Lg.read; rw [er]; rfl
    rw [e] at hlen
    have e1 : ((s.len : Nat) : Int) = 1 := by rw [hlen]; rfl
    rw [e1]
    exact hK w33 h7.tail.tail.tail.tail
  · refine ifB_intro (fun c => absurd c (by simp)) fun _ => ?_
    refine ifB_bne (fun c => absurd rfl c) fun _ => ?_
    refine bsB h2 (cs := [Sl.v ⟨none, 0, 0⟩, Sl.v ⟨none, 0, 0⟩, Sl.v ⟨none, 0, 0⟩]) (e := T_sl_uint8) (fun w => by kernel_rfl) fun gb w10 h3 => ?_
    let d : Dc := ⟨0, 0, 0, 0, 0, false, false, false, ⟨some ⟨gb, 0, none⟩, 3, 3⟩, [⟨none, 0, 0⟩, ⟨none, 0, 0⟩, ⟨none, 0, 0⟩], [[], [], []]⟩
    have hv : VRd W (Blk gb [Sl.v ⟨none, 0, 0⟩, Sl.v ⟨none, 0, 0⟩, Sl.v ⟨none, 0, 0⟩] T_sl_uint8 :: l) d := by
      refine ⟨Rd.blk (n := 3) (sz := 1) rfl, rfl, fun i s b0 h1 h2 => ?_⟩
      have hs : s = ⟨none, 0, 0⟩ ∧ b0 = [] := by
        match i with
        | 0 => exact ⟨(Option.some.inj h1).symm, (Option.some.inj h2).symm⟩
        | 1 => exact ⟨(Option.some.inj h1).symm, (Option.some.inj h2).symm⟩
        | 2 => exact ⟨(Option.some.inj h1).symm, (Option.some.inj h2).symm⟩
        | n + 3 => cases h1
      rw [hs.1, hs.2]
      exact Rd.nil rfl
    have h4 : Sat W w10 (LgR a b aG0 :: DkR b Dk.new :: Blk gb [Sl.v ⟨none, 0, 0⟩, Sl.v ⟨none, 0, 0⟩, Sl.v ⟨none, 0, 0⟩] T_sl_uint8 :: l) := h3.sel 3 [1, 2, 0]
    have hnum : d.num := hbe.2
    refine put_ok (d := d) h4 hl.cons hnum hv hB0 (fun s hs => by cases hs) (by decide) (by decide) (by decide) fun w12 h5 => tyI (k := .int .i64) ?_
    have ep : aG0.put Dk.new d.bd = (aG1, aD1 0, 0) := aPut
    rw [ep] at h5
    rw [ep]
    refine ifB_bne (fun c => absurd rfl c) fun _ => ?_
    refine fin_ok h5 hB1 fun w15 h6 => tyI (k := .int .i64) ?_
    have ef : aG1.fin = 3 := rfl
    rw [ef]
    refine ifB_bne (fun c => absurd rfl c) fun _ => ?_
    refine synced_ok h6 (tyI (k := .int .i64) ?_)
    refine ifB_bne (fun c => absurd rfl c) fun _ => ?_
    refine flush_ok h6 hB1 fun w21 h7 => tyI (k := .int .i64) ?_
    rw [aFlush] at h7
    rw [aFlush]
    refine ifB_bne (fun c => absurd rfl c) fun _ => ?_
    exact h7.cut 2
theorem law_none8 {cs : List Value} {n : Int} (hcs : cs.length = 9) (h : Sat W w l) (hl : Lai W l) (hK : ∀ w', Sat W w' l → K (.bool true) w') : CallP P F_law08_SegNone [.agg cs.toArray, .int .i64 n] w K := by
  apply c_law08_SegNone
  unfold S_law08_SegNone
  refine boxB h fun a0 w1 h1 => ?_
  have h1 : Sat W w1 (Blk a0 cs T_api_Batch :: l) := h1
  refine openNil_ok (n := [108, 111, 103]) (tup2p ?_)
  refine awake8_ok h1 hl.cons fun w6 h2 => tyI (k := .bool) ?_
  refine ifB_intro (fun _ => ?_) fun c => absurd c (by simp)
  refine ifB_intro (fun _ => ?_) fun c => absurd c (by simp)
  refine ifB_beq (fun _ => ?_) fun c => absurd rfl c
  refine ldAggB h2 (by rw [hcs]; kernel_rfl) ?_
  refine putNil_ok h2 fun w10 h3 => tyI (k := .int .i64) ?_
  refine ifB_beq (fun _ => ?_) fun c => absurd rfl c
  refine flushNil_ok (tyI (k := .int .i64) ?_)
  refine ifB_beq (fun _ => ?_) fun c => absurd rfl c
  refine readNil_ok (tyI (k := .sl) (x := ⟨none, 0, 0⟩) ?_)
  refine ifB_beq (fun _ => ?_) fun c => absurd rfl c
  refine truncNil_ok (tyI (k := .int .i64) ?_)
  refine ifB_beq (fun _ => ?_) fun c => absurd rfl c
  refine dropNil_ok (tyI (k := .int .i64) ?_)
  refine ifB_beq (fun _ => ?_) fun c => absurd rfl c
  refine startNil_ok (tyI (k := .int .i64) ?_)
  refine ifB_beq (fun _ => ?_) fun c => absurd rfl c
  refine endNil_ok (tyI (k := .int .i64) ?_)
  refine ifB_beq (fun _ => ?_) fun c => absurd rfl c
  refine syncedNil_ok (tyI (k := .int .i64) ?_)
  refine ifB_beq (fun _ => ?_) fun c => absurd rfl c
  refine segmentsNil_ok (tyI (k := .sl) (x := ⟨none, 0, 0⟩) ?_)
  exact hK w10 h3.tail
end
end Go.Proofs.YtbpcichakchpkaaGreatDoor
