/- Texts of mine, put together: TS, TT, TU, TV, TW, TX. -/
import Derived.Test.YtbpcichakchpkaaGreatDoorE11
/- Layer 8: segments are taken away from the front. -/
namespace Go.Proofs.YtbpcichakchpkaaGreatDoor
open Go Go.Pk
def Lg.dropL (before : Int) : Nat → Lg → Dk → Lg × Dk × Int
  | 0, g, d => (g, d, 0)
  | n + 1, g, d => match g.segs with
    | s :: s2 :: ss => if s2.base ≤ before then
        if (d.remove s.name).2 ≠ 0 then (g, (d.remove s.name).1, (d.remove s.name).2) else dropL before n { g with segs := s2 :: ss } (d.remove s.name).1
      else (g, d, 0)
    | _ => (g, d, 0)
def Lg.drop (g : Lg) (d : Dk) (before : Int) : Lg × Dk × Int := Lg.dropL before g.segs.length g d
theorem Lg.dropL_few {before : Int} {g : Lg} {d : Dk} (h : g.segs.length ≤ 1) (n : Nat) : Lg.dropL before n g d = (g, d, 0) := by
  cases n with
  | zero => rfl
  | succ n =>
    unfold Lg.dropL
    split
    · rename_i s s2 ss he; rw [he] at h; simp at h
    · rfl
/-- how many segments a log in memory has -/
noncomputable def segN (a : Nat) (w : World) : Nat := match w.cell? ⟨a, 3, none⟩ with
  | some (.slice _ n _) => n
  | _ => 0
section
variable {W w : World} {l : List Res} {K : Value → World → Prop} {a b : Nat} {g : Lg}
theorem segN_eq {p : LgP} {T : TypeId} (h : Sat W w (Blk a (lcells b g p) T :: l)) : segN a w = p.sl.len := by
  unfold segN
  rw [h.cell]; rfl
set_option maxHeartbeats 1000000 in
theorem drop_ok {d : Dk} {before : Int} (h : Sat W w (LgR a b g :: DkR b d :: l)) (hn : g.segs.length < 1073741824)
    (hK : ∀ w', Sat W w' (LgR a b (g.drop d before).1 :: DkR b (g.drop d before).2.1 :: l) → K (.int .i64 (g.drop d before).2.2) w') : CallP P F_seglog_Log_Drop [.pointer (some ⟨a, 0, none⟩), .int .i64 before] w K := by
  apply c_seglog_Log_Drop
  unfold S_seglog_Log_Drop
  refine ifB_intro (fun c => absurd c (by simp)) fun _ => ?_
  refine ⟨fun _ w' => ∃ (n : Nat) (g' : Lg) (d' : Dk), g'.segs.length ≤ n ∧ n < 1073741824 ∧ Lg.dropL before n g' d' = g.drop d before ∧ Sat W w' (LgR a b g' :: DkR b d' :: l), fun _ w' => segN a w', ⟨g.segs.length, g, d, Nat.le_refl _, hn, rfl, h⟩, ?_⟩
  rintro _ w2 ⟨n, g', d', hgn, hn2, hdr, h1⟩
  obtain ⟨p, hp, h2⟩ := sat_lg.1 h1
  have hol := own_len (h2.up 2) (by decide : 0 < 1)
  have hpl : p.cs.length = g'.segs.length := by rw [← hp]; simp
  have hsN := segN_eq h2
  have fin : ∀ w', Lg.dropL before n g' d' = (g', d', 0) → Sat W w' (LgL a b g' p (DkR b d' :: l)) → K (.int .i64 0) w' := fun w' he hs => by
    rw [← hdr, he] at hK
    exact hK w' (sat_lg.2 ⟨p, hp, hs⟩)
  refine ⟨fun _ w' => w' = w2 ∧ ∃ x y cs, p.cs = x :: y :: cs ∧ y.2.base ≤ before, ?_, ?_⟩
  · rintro _ w5 ⟨hw5, x, y, cs, hcs, hyb⟩
    subst hw5
    have h3 := h2.drew
    have hx : p.cs[0]? = some x := by rw [hcs]; rfl
    have hsegs : g'.segs = x.2 :: y.2 :: cs.map Prod.snd := by rw [← hp, hcs]; rfl
    obtain ⟨m, rfl⟩ : ∃ m, n = m + 1 := ⟨n - 1, by rw [hsegs] at hgn; simp at hgn; omega⟩
    have hstep : Lg.dropL before (m + 1) g' d' = if (d'.remove x.2.name).2 ≠ 0 then (g', (d'.remove x.2.name).1, (d'.remove x.2.name).2) else Lg.dropL before m { g' with segs := y.2 :: cs.map Prod.snd } (d'.remove x.2.name).1 := by
      rw [Lg.dropL, hsegs]
      simp only
      rw [if_pos hyb]
    let S : World → Prop := fun w => ∃ L, Sat W w (LgL a b g' p L)
    have hS1 : ∀ w, S w → ∃ L, Sat W w (Blk a (lcells b g' p) T_seglog_Log :: L) := fun w hw => by obtain ⟨L, hw⟩ := hw; exact ⟨_, hw⟩
    have hS2 : ∀ w, S w → ∃ L, Sat W w (OwnS elS p.sl p.cs :: L) := fun w hw => by obtain ⟨L, hw⟩ := hw; exact ⟨_, hw.up 2⟩
    have hSx : ∀ w, S w → w.cell? ⟨x.1, 1, none⟩ = some (vStr x.2.name) := fun w hw => by
      obtain ⟨L, hw⟩ := hw
      obtain ⟨bs, es, ds, _, h4⟩ := sg_open hx hw
      have := Sat.cell h4 1
      rw [this]; rfl
    refine ⟨S, ⟨_, h3⟩, ?_⟩
    refine hldX hS1 0 (x := some ⟨b, 0, none⟩) ?_
    refine hldX hS1 3 (x := p.sl) ?_
    refine hsg_ptr (i := 0) (x := x) (by decide) hx ⟨_, h3⟩ hS2 ?_
    refine ⟨vK x.2.name, fun w hw => run_load1 (by kernel_rfl) (hSx w hw), ?_⟩
    have h4 : Sat W w5.drew (DkR b d' :: LgL a b g' p l) := h3.sel 4 [3, 0, 1, 2]
    refine dremove_ok h4 fun w54 h5 => tyI (k := .int .i64) ?_
    have h6 : Sat W w54 (LgL a b g' p (DkR b (d'.remove x.2.name).1 :: l)) := h5.sel 4 [1, 2, 3, 0]
    refine ⟨⟨_, h6⟩, ?_⟩
    refine ifB_bne (fun c => ?_) fun c => ?_
    · rw [if_pos c] at hstep
      rw [← hdr, hstep] at hK
      exact hK w54 (sat_lg.2 ⟨p, hp, h6⟩)
    · rw [if_neg (by simpa using c)] at hstep
      refine ldX h6 3 (x := p.sl) ?_
      refine ⟨subSl p.sl 1 1 p.sl.len, ?_, ?_⟩
      · have := run_sliceLo et_segs (s := p.sl) (lo := 1) (by decide) (by rw [hol.1, hcs]; simp; omega) hol.2.1 w54 (j := .i64)
        rw [this]; rfl
      · refine stX h6 3 (v := Sl.v (subSl p.sl 1 1 p.sl.len)) (hi := (by show 3 < 5; decide)) fun w30 h7 => ?_
        have h8 : Sat W w30 (OwnS elS p.sl p.cs :: Blk a (lcells b { g' with segs := y.2 :: cs.map Prod.snd } { p with sl := subSl p.sl 1 1 p.sl.len, cs := y :: cs }) T_seglog_Log :: FrR p.fr :: DkR b (d'.remove x.2.name).1 :: l) := h7.sel 4 [2, 0, 1, 3]
        have h9 := own_drop h8 (k := 1) (by rw [hol.1, hcs]; simp)
        have e9 : p.cs.drop 1 = y :: cs := by rw [hcs]; rfl
        rw [e9] at h9
        have h10 : Sat W w30 (LgL a b { g' with segs := y.2 :: cs.map Prod.snd } { p with sl := subSl p.sl 1 1 p.sl.len, cs := y :: cs } (DkR b (d'.remove x.2.name).1 :: l)) := h9.sel 4 [1, 2, 0, 3]
        have hsN2 := segN_eq h10
        refine ⟨⟨m, _, _, ?_, by omega, by rw [← hstep]; exact hdr, sat_lg.2 ⟨_, by simp, h10⟩⟩, ?_⟩
        · rw [hsegs] at hgn; simp at hgn ⊢; omega
        · show segN a w30 < segN a w5
          rw [hsN, hsN2]
          show p.sl.len - 1 < p.sl.len
          have : p.cs.length = cs.length + 2 := by rw [hcs]; rfl
          omega
  · refine ldX h2 3 (x := p.sl) ?_
    refine ifB_dec (fun c => ?_) fun c => ?_
    · match hcs : p.cs with
      | [] => rw [hcs] at hol; simp at hol; omega
      | [x] => rw [hcs] at hol; simp at hol; omega
      | x :: y :: cs =>
        have hy : p.cs[((1 : Int)).toNat]? = some y := by rw [hcs]; rfl
        refine ldX h2 3 (x := p.sl) ?_
        refine sg_ptr (i := 1) (x := y) (by decide) hy (h2.up 2) ?_
        obtain ⟨bs, es, ds, hds, h4⟩ := sg_open (i := 1) hy h2
        refine ldX h4 0 (x := y.2.base) ?_
        refine ifB_dec (fun c2 => ⟨rfl, x, y, cs, by first | exact hcs | rfl, c2⟩) fun c2 => ?_
        refine fin w2 ?_ h2
        have hsegs : g'.segs = x.2 :: y.2 :: cs.map Prod.snd := by rw [← hp, hcs]; rfl
        cases n with
        | zero => rfl
        | succ n =>
          rw [Lg.dropL, hsegs]
          simp only
          rw [if_neg c2]
    · exact fin w2 (Lg.dropL_few (by omega) n) h2
end
end Go.Proofs.YtbpcichakchpkaaGreatDoor

/- Layer 8: a log is cut behind an offset. -/
namespace Go.Proofs.YtbpcichakchpkaaGreatDoor
open Go Go.Pk
/-- how many of so many batches end up to an offset, from behind -/
def keepK (to_ : Int) (bt : List Bd) : Nat → Nat
  | 0 => 0
  | k + 1 => match bt[k]? with
    | some x => if x.fin > to_ then keepK to_ bt k else k + 1
    | none => k + 1
def Sg.cutAt (s : Sg) (k : Nat) : Int := if k = 0 then 0 else s.ends.getD (k - 1) 0
def Sg.cut (s : Sg) (k : Nat) : Sg := ⟨s.base, s.name, s.cutAt k, s.bt.take k, s.ends.take k⟩
def Lg.truncL (to_ : Int) : Nat → Lg → Dk → Lg × Dk × Int
  | 0, g, d => (g, d, 0)
  | n + 1, g, d => match g.segs.getLast? with
    | none => (g, d, 0)
    | some s =>
      if keepK to_ s.bt s.bt.length = 0 ∧ 1 < g.segs.length then
        if (d.remove s.name).2 ≠ 0 then (g, (d.remove s.name).1, (d.remove s.name).2) else Lg.truncL to_ n { g with segs := g.segs.dropLast } (d.remove s.name).1
      else if keepK to_ s.bt s.bt.length = s.bt.length then (g, d, 0) else
        if (d.cut s.name (s.cutAt (keepK to_ s.bt s.bt.length))).2 ≠ 0 then (g, (d.cut s.name (s.cutAt (keepK to_ s.bt s.bt.length))).1, (d.cut s.name (s.cutAt (keepK to_ s.bt s.bt.length))).2)
        else (g.last (s.cut (keepK to_ s.bt s.bt.length)), (d.cut s.name (s.cutAt (keepK to_ s.bt s.bt.length))).1, 0)
def Lg.trunc (g : Lg) (d : Dk) (to_ : Int) : Lg × Dk × Int :=
  if to_ < g.start then (g, d, 13) else
  if (Lg.truncL to_ g.segs.length g d).2.2 ≠ 0 then Lg.truncL to_ g.segs.length g d
  else ({ (Lg.truncL to_ g.segs.length g d).1 with sync := min (Lg.truncL to_ g.segs.length g d).1.sync (Lg.truncL to_ g.segs.length g d).1.fin }, (Lg.truncL to_ g.segs.length g d).2.1, 0)
theorem keepK_le (to_ : Int) (bt : List Bd) : ∀ k, keepK to_ bt k ≤ k
  | 0 => Nat.le_refl _
  | k + 1 => by
    unfold keepK
    split
    · split
      · have := keepK_le to_ bt k; omega
      · exact Nat.le_refl _
    · exact Nat.le_refl _
section
variable {W w : World} {l : List Res} {K : Value → World → Prop} {a b : Nat} {g : Lg}
set_option maxHeartbeats 1000000 in
theorem truncBody_ok {d : Dk} {p : LgP} {x : Nat × Sg} {k : Nat} {next6 J3 : World → Prop} (hp : p.cs.map Prod.snd = g.segs) (h : Sat W w (LgL a b g p (DkR b d :: l))) (hx : p.cs[p.cs.length - 1]? = some x) (hn : p.cs.length < 1073741824)
    (he : x.2.ends.length = x.2.bt.length) (heb : ∀ e ∈ x.2.ends, 0 ≤ e ∧ e ≤ 1099511627776) (hk : k ≤ x.2.bt.length)
    (hR1 : k = 0 → 1 < g.segs.length → (d.remove x.2.name).2 ≠ 0 → ∀ w', Sat W w' (LgR a b g :: DkR b (d.remove x.2.name).1 :: l) → K (.int .i64 (d.remove x.2.name).2) w')
    (hN : k = 0 → 1 < g.segs.length → (d.remove x.2.name).2 = 0 → ∀ w', Sat W w' (LgR a b { g with segs := g.segs.dropLast } :: DkR b (d.remove x.2.name).1 :: l) → segN a w' < p.sl.len → next6 w')
    (hJ1 : ¬ (k = 0 ∧ 1 < g.segs.length) → k = x.2.bt.length → ∀ w', Sat W w' (LgR a b g :: DkR b d :: l) → J3 w')
    (hR2 : ¬ (k = 0 ∧ 1 < g.segs.length) → k ≠ x.2.bt.length → (d.cut x.2.name (x.2.cutAt k)).2 ≠ 0 → ∀ w', Sat W w' (LgR a b g :: DkR b (d.cut x.2.name (x.2.cutAt k)).1 :: l) → K (.int .i64 (d.cut x.2.name (x.2.cutAt k)).2) w')
    (hJ2 : ¬ (k = 0 ∧ 1 < g.segs.length) → k ≠ x.2.bt.length → (d.cut x.2.name (x.2.cutAt k)).2 = 0 → ∀ w', Sat W w' (LgR a b (g.last (x.2.cut k)) :: DkR b (d.cut x.2.name (x.2.cutAt k)).1 :: l) → J3 w') :
    JoinP (T := Unit) (fun J34 =>
                ifB ((k : Int) == 0)
                (nilCk (some ⟨a, 0, none⟩) fun (a37 : Addr) =>
                RunQ .sl P (Instr.loadAt T_sl_p_seglog_segment (.pointer (some (a37.add 3)))) w fun (s38 : Sl) =>
                ifB (decide ((↑s38.len : Int) > 1))
                (∃ S39 : World → Prop, (S39 w.drew) ∧
                nilCk (some ⟨a, 0, none⟩) fun (a40 : Addr) =>
                HRun S39 .ptr P (Instr.loadAt T_p_disk_Disk (.pointer (some (a40.add 0)))) fun (p41 : Option Addr) =>
                nilCk (some ⟨x.1, 0, none⟩) fun (a42 : Addr) =>
                HRun S39 .str P (Instr.loadAt T_string (.pointer (some (a42.add 1)))) fun (t43 : ByteArray) =>
                CallP P F_disk_Disk_Remove [(.pointer p41), (.string t43)] w.drew fun (v44 : Value) w45 =>
                TyP (.int .i64) v44 fun (n46 : Int) =>
                (S39 w45) ∧
                ifB (n46 != 0)
                (K (.int .i64 n46) w45)
                (∃ S47 : World → Prop, (S47 w45.drew) ∧
                nilCk (some ⟨a, 0, none⟩) fun (a48 : Addr) =>
                nilCk (some ⟨a, 0, none⟩) fun (a49 : Addr) =>
                (RunQ .sl P (Instr.loadAt T_sl_p_seglog_segment (.pointer (some (a48.add 3)))) w45.drew fun (s50 : Sl) =>
                (S47 w45.drew) ∧
                RunQ .sl P (Instr.loadAt T_sl_p_seglog_segment (.pointer (some (a49.add 3)))) w45.drew fun (s51 : Sl) =>
                (S47 w45.drew) ∧
                HRun S47 .sl P (Instr.sliceAt T_sl_p_seglog_segment s50.v none (some (.int .i64 (IntKind.i64.wrap ((↑s51.len : Int) - 1)))) none) fun (s52 : Sl) =>
                nilCk (some ⟨a, 0, none⟩) fun (a53 : Addr) =>
                StoreP P T_sl_p_seglog_segment (.pointer (some (a53.add 3))) s52.v w45.drew fun w54 =>
                (S47 w54) ∧
                next6 w54) ∧
                (RunQ .sl P (Instr.loadAt T_sl_p_seglog_segment (.pointer (some (a49.add 3)))) w45.drew fun (s55 : Sl) =>
                (S47 w45.drew) ∧
                RunQ .sl P (Instr.loadAt T_sl_p_seglog_segment (.pointer (some (a48.add 3)))) w45.drew fun (s56 : Sl) =>
                (S47 w45.drew) ∧
                HRun S47 .sl P (Instr.sliceAt T_sl_p_seglog_segment s56.v none (some (.int .i64 (IntKind.i64.wrap ((↑s55.len : Int) - 1)))) none) fun (s57 : Sl) =>
                nilCk (some ⟨a, 0, none⟩) fun (a58 : Addr) =>
                StoreP P T_sl_p_seglog_segment (.pointer (some (a58.add 3))) s57.v w45.drew fun w59 =>
                (S47 w59) ∧
                next6 w59) ∧
                True))
                (J34 (some ()) w))
                (J34 (some ()) w))
                fun t35 w36 =>
                nilCk (some ⟨x.1, 0, none⟩) fun (a60 : Addr) =>
                RunQ .sl P (Instr.loadAt T_sl_api_Batch (.pointer (some (a60.add 3)))) w36 fun (s61 : Sl) =>
                ifB ((k : Int) == (↑s61.len : Int))
                (J3 w36)
                (JoinP (T := Int × Unit) (fun J62 =>
                ifB (decide ((k : Int) > 0))
                (nilCk (some ⟨x.1, 0, none⟩) fun (a65 : Addr) =>
                RunQ .sl P (Instr.loadAt T_sl_int (.pointer (some (a65.add 4)))) w36 fun (s66 : Sl) =>
                RunQ .addr P (Instr.indexAt T_sl_int s66.v (.int .i64 (IntKind.i64.wrap ((k : Int) - 1)))) w36 fun (a67 : Addr) =>
                RunQ (.int .i64) P (Instr.loadAt T_int (.pointer (some a67))) w36 fun (n68 : Int) =>
                J62 (some (n68, ())) w36)
                (J62 (some (0, ())) w36))
                fun t63 w64 =>
                ∃ S69 : World → Prop, (S69 w64.drew) ∧
                nilCk (some ⟨a, 0, none⟩) fun (a70 : Addr) =>
                HRun S69 .ptr P (Instr.loadAt T_p_disk_Disk (.pointer (some (a70.add 0)))) fun (p71 : Option Addr) =>
                nilCk (some ⟨x.1, 0, none⟩) fun (a72 : Addr) =>
                HRun S69 .str P (Instr.loadAt T_string (.pointer (some (a72.add 1)))) fun (t73 : ByteArray) =>
                CallP P F_disk_Disk_Cut [(.pointer p71), (.string t73), (.int .i64 t63.fst)] w64.drew fun (v74 : Value) w75 =>
                TyP (.int .i64) v74 fun (n76 : Int) =>
                (S69 w75) ∧
                ifB (n76 != 0)
                (K (.int .i64 n76) w75)
                (∃ S77 : World → Prop, (S77 w75.drew) ∧
                nilCk (some ⟨x.1, 0, none⟩) fun (a78 : Addr) =>
                nilCk (some ⟨x.1, 0, none⟩) fun (a79 : Addr) =>
                (RunQ .sl P (Instr.loadAt T_sl_api_Batch (.pointer (some (a78.add 3)))) w75.drew fun (s80 : Sl) =>
                (S77 w75.drew) ∧
                HRun S77 .sl P (Instr.sliceAt T_sl_api_Batch s80.v none (some (.int .i64 (k : Int))) none) fun (s81 : Sl) =>
                RunQ .sl P (Instr.loadAt T_sl_int (.pointer (some (a79.add 4)))) w75.drew fun (s82 : Sl) =>
                (S77 w75.drew) ∧
                HRun S77 .sl P (Instr.sliceAt T_sl_int s82.v none (some (.int .i64 (k : Int))) none) fun (s83 : Sl) =>
                nilCk (some ⟨x.1, 0, none⟩) fun (a84 : Addr) =>
                StoreP P T_int (.pointer (some (a84.add 2))) (.int .i64 t63.fst) w75.drew fun w85 =>
                (S77 w85) ∧
                nilCk (some ⟨x.1, 0, none⟩) fun (a86 : Addr) =>
                StoreP P T_sl_api_Batch (.pointer (some (a86.add 3))) s81.v w85 fun w87 =>
                (S77 w87) ∧
                nilCk (some ⟨x.1, 0, none⟩) fun (a88 : Addr) =>
                StoreP P T_sl_int (.pointer (some (a88.add 4))) s83.v w87 fun w89 =>
                (S77 w89) ∧
                J3 w89) ∧
                (RunQ .sl P (Instr.loadAt T_sl_int (.pointer (some (a79.add 4)))) w75.drew fun (s90 : Sl) =>
                (S77 w75.drew) ∧
                HRun S77 .sl P (Instr.sliceAt T_sl_int s90.v none (some (.int .i64 (k : Int))) none) fun (s91 : Sl) =>
                RunQ .sl P (Instr.loadAt T_sl_api_Batch (.pointer (some (a78.add 3)))) w75.drew fun (s92 : Sl) =>
                (S77 w75.drew) ∧
                HRun S77 .sl P (Instr.sliceAt T_sl_api_Batch s92.v none (some (.int .i64 (k : Int))) none) fun (s93 : Sl) =>
                nilCk (some ⟨x.1, 0, none⟩) fun (a94 : Addr) =>
                StoreP P T_int (.pointer (some (a94.add 2))) (.int .i64 t63.fst) w75.drew fun w95 =>
                (S77 w95) ∧
                nilCk (some ⟨x.1, 0, none⟩) fun (a96 : Addr) =>
                StoreP P T_sl_api_Batch (.pointer (some (a96.add 3))) s93.v w95 fun w97 =>
                (S77 w97) ∧
                nilCk (some ⟨x.1, 0, none⟩) fun (a98 : Addr) =>
                StoreP P T_sl_int (.pointer (some (a98.add 4))) s91.v w97 fun w99 =>
                (S77 w99) ∧
                J3 w99) ∧
                True)) := by
  have hol := own_len (h.up 2) (by decide : 0 < 1)
  have hpl : p.cs.length = g.segs.length := by rw [← hp]; simp
  have hlt := (List.getElem?_eq_some_iff.1 hx).1
  obtain ⟨bs, es, ds, hds, h1⟩ := sg_open hx h
  have hb := own_len (h1.up 1) (by decide : 0 < 9)
  have hel := Sat.isLen (h1.up 2)
  have hdl : ds.length = x.2.bt.length := by rw [← hds]; simp
  refine ⟨fun _ w' => ¬ (k = 0 ∧ 1 < g.segs.length) ∧ w' = w, ?_, ?_⟩
  · rintro _ w36 ⟨hno, hw36⟩
    subst hw36
    simp only [nilCk]
    refine ldX h1 3 (x := bs) ?_
    refine ifB_beq (fun c => hJ1 hno (by omega) _ (sat_lg.2 ⟨p, hp, h⟩)) fun c => ?_
    have hkn : k ≠ x.2.bt.length := by omega
    refine ⟨fun t w' => t.1 = x.2.cutAt k ∧ w' = w36, ?_, ?_⟩
    · rintro ⟨tc, uu⟩ w64 ⟨htc, hw64⟩
      simp only at htc ⊢
      subst htc; subst hw64
      have h2 := h1.drew
      let S : World → Prop := fun w => ∃ L, Sat W w (SgL a b g p (p.cs.length - 1) x bs es ds L)
      have hS1 : ∀ w, S w → ∃ L, Sat W w (Blk a (lcells b g p) T_seglog_Log :: L) := fun w hw => by obtain ⟨L, hw⟩ := hw; exact ⟨_, Sat.up (L := SgL a b g p (p.cs.length - 1) x bs es ds L) hw 5⟩
      have hS2 : ∀ w, S w → ∃ L, Sat W w (Blk x.1 (scells x.2 bs es) T_seglog_segment :: L) := fun w hw => by obtain ⟨L, hw⟩ := hw; exact ⟨_, hw⟩
      refine ⟨S, ⟨_, h2⟩, ?_⟩
      refine hldX hS1 0 (x := some ⟨b, 0, none⟩) ?_
      refine hldX hS2 1 (x := vK x.2.name) ?_
      have h3 : Sat W w64.drew (DkR b d :: SgL a b g p (p.cs.length - 1) x bs es ds l) := h2.sel 8 [7, 0, 1, 2, 3, 4, 5, 6]
      have hcb : 0 ≤ x.2.cutAt k ∧ x.2.cutAt k ≤ 1099511627776 := by
        unfold Sg.cutAt
        split
        · omega
        · have hkl : k - 1 < x.2.ends.length := by omega
          rw [List.getD_eq_getElem?_getD, List.getElem?_eq_getElem hkl]
          exact heb _ (List.getElem_mem hkl)
      refine dcut_ok (n := x.2.name) (k := x.2.cutAt k) h3 (by omega) fun w75 h4 => tyI (k := .int .i64) ?_
      have h5 : Sat W w75 (SgL a b g p (p.cs.length - 1) x bs es ds (DkR b (d.cut x.2.name (x.2.cutAt k)).1 :: l)) := h4.sel 8 [1, 2, 3, 4, 5, 6, 7, 0]
      refine ⟨⟨_, h5⟩, ?_⟩
      refine ifB_bne (fun c2 => hR2 hno hkn c2 w75 (sat_lg.2 ⟨p, hp, sg_close hx hds h5⟩)) fun c2 => ?_
      have h6 := h5.drew
      refine ⟨fun _ => True, trivial, ?_⟩
      have slB : ∀ {Kx : Sl → Prop}, Kx ⟨bs.a, k, bs.cap⟩ → HRun (fun _ => True) .sl P (Instr.sliceAt T_sl_api_Batch bs.v none (some (.int .i64 (k : Int))) none) Kx := fun {Kx} hk' => by
        refine ⟨⟨bs.a, k, bs.cap⟩, fun w _ => ?_, hk'⟩
        have := run_sliceHi et_batches (s := bs) (hi := (k : Int)) (by omega) (by omega) w (j := .i64)
        rw [this]; simp
      have slE : ∀ {Kx : Sl → Prop}, Kx ⟨es.a, k, es.cap⟩ → HRun (fun _ => True) .sl P (Instr.sliceAt T_sl_int es.v none (some (.int .i64 (k : Int))) none) Kx := fun {Kx} hk' => by
        refine ⟨⟨es.a, k, es.cap⟩, fun w _ => ?_, hk'⟩
        have hcap := (h1.up 2).slLen.2.1
        have := run_sliceHi et_isl (s := es) (hi := (k : Int)) (by omega) (by omega) w (j := .i64)
        rw [this]; simp
      have st : StoreP P T_int (.pointer (some ((⟨x.1, 0, none⟩ : Addr).add 2))) (.int .i64 (x.2.cutAt k)) w75.drew fun w85 => True ∧
          StoreP P T_sl_api_Batch (.pointer (some ((⟨x.1, 0, none⟩ : Addr).add 3))) (Sl.v ⟨bs.a, k, bs.cap⟩) w85 fun w87 => True ∧
          StoreP P T_sl_int (.pointer (some ((⟨x.1, 0, none⟩ : Addr).add 4))) (Sl.v ⟨es.a, k, es.cap⟩) w87 fun w89 => True ∧ J3 w89 := by
        refine stX h6 2 (v := .int .i64 (x.2.cutAt k)) (hi := (by show 2 < 5; decide)) fun w85 h7 => ⟨trivial, ?_⟩
        refine stX h7 3 (v := Sl.v ⟨bs.a, k, bs.cap⟩) (hi := (by show 3 < 5; decide)) fun w87 h8 => ⟨trivial, ?_⟩
        refine stX h8 4 (v := Sl.v ⟨es.a, k, es.cap⟩) (hi := (by show 4 < 5; decide)) fun w89 h9 => ⟨trivial, ?_⟩
        refine hJ2 hno hkn c2 w89 ?_
        let x' : Nat × Sg := (x.1, x.2.cut k)
        have h10 : Sat W w89 (Blk x.1 (scells x'.2 ⟨bs.a, k, bs.cap⟩ ⟨es.a, k, es.cap⟩) T_seglog_segment :: OwnS elB bs ds :: IsR es x.2.ends :: SlR elS.T elS.sz p.sl (elS.flat p.cs) :: All ((p.cs.map elS.own).eraseIdx (p.cs.length - 1)) :: Blk a (lcells b g p) T_seglog_Log :: FrR p.fr :: DkR b (d.cut x.2.name (x.2.cutAt k)).1 :: l) := h9
        have h11 := own_take (h10.up 1) (k := k) (by omega)
        have h12 := slr_take (h11.up 2) (k := k) (by omega)
        have e12 : (x.2.ends.map vI).take (k * 1) = (x.2.ends.take k).map vI := by rw [Nat.mul_one, List.map_take]
        rw [e12] at h12
        have h13 : Sat W w89 (BtR ⟨bs.a, k, bs.cap⟩ x'.2.bt :: Blk x.1 (scells x'.2 ⟨bs.a, k, bs.cap⟩ ⟨es.a, k, es.cap⟩) T_seglog_segment :: IsR ⟨es.a, k, es.cap⟩ x'.2.ends :: SlR elS.T elS.sz p.sl (elS.flat p.cs) :: All ((p.cs.map elS.own).eraseIdx (p.cs.length - 1)) :: Blk a (lcells b g p) T_seglog_Log :: FrR p.fr :: DkR b (d.cut x.2.name (x.2.cutAt k)).1 :: l) :=
          sat_bt.2 ⟨ds.take k, by rw [List.map_take, hds]; rfl, h12.sel 3 [1, 2, 0]⟩
        have h14 : Sat W w89 (SgR x'.1 x'.2 :: SlR elS.T elS.sz p.sl (elS.flat p.cs) :: All ((p.cs.map elS.own).eraseIdx (p.cs.length - 1)) :: Blk a (lcells b g p) T_seglog_Log :: FrR p.fr :: DkR b (d.cut x.2.name (x.2.cutAt k)).1 :: l) := sat_sg.2 ⟨_, _, h13.swap⟩
        have h15 := own_back (E := elS) (y := x') hx rfl h14
        have h16 : Sat W w89 (LgL a b (g.last (x.2.cut k)) { p with cs := p.cs.set (p.cs.length - 1) x' } (DkR b (d.cut x.2.name (x.2.cutAt k)).1 :: l)) := h15.sel 3 [1, 2, 0]
        refine sat_lg.2 ⟨_, ?_, h16⟩
        show (p.cs.set (p.cs.length - 1) x').map Prod.snd = g.segs.set (g.segs.length - 1) (x.2.cut k)
        rw [List.map_set, hp, hpl]
      refine ⟨?_, ?_, trivial⟩
      · refine ldX h6 3 (x := bs) ⟨trivial, ?_⟩
        refine slB ?_
        refine ldX h6 4 (x := es) ⟨trivial, ?_⟩
        refine slE ?_
        exact st
      · refine ldX h6 4 (x := es) ⟨trivial, ?_⟩
        refine slE ?_
        refine ldX h6 3 (x := bs) ⟨trivial, ?_⟩
        refine slB ?_
        exact st
    · refine ifB_dec (fun c2 => ?_) fun c2 => ?_
      · refine ldX h1 4 (x := es) ?_
        have hkl : k - 1 < x.2.ends.length := by omega
        rw [w_i64 (n := (k : Int) - 1) (by omega) (by omega)]
        have ek : (k : Int) - 1 = ((k - 1 : Nat) : Int) := by omega
        rw [ek]
        refine is_at et_isl (List.getElem?_eq_getElem hkl) (h1.up 2) ?_ (by kernel_rfl)
        refine ⟨?_, rfl⟩
        unfold Sg.cutAt
        rw [if_neg (by omega), List.getD_eq_getElem?_getD, List.getElem?_eq_getElem hkl]; rfl
      · refine ⟨?_, rfl⟩
        unfold Sg.cutAt
        rw [if_pos (by omega)]
  · simp only [nilCk]
    refine ifB_beq (fun c => ?_) fun c => ⟨fun hh => c (by omega), trivial⟩
    have hk0 : k = 0 := by omega
    refine ldX h 3 (x := p.sl) ?_
    refine ifB_dec (fun c2 => ?_) fun c2 => ⟨fun hh => by omega, trivial⟩
    have hseg : 1 < g.segs.length := by omega
    have h2 := h1.drew
    let S : World → Prop := fun w => ∃ L, Sat W w (SgL a b g p (p.cs.length - 1) x bs es ds L)
    have hS1 : ∀ w, S w → ∃ L, Sat W w (Blk a (lcells b g p) T_seglog_Log :: L) := fun w hw => by obtain ⟨L, hw⟩ := hw; exact ⟨_, Sat.up (L := SgL a b g p (p.cs.length - 1) x bs es ds L) hw 5⟩
    have hS2 : ∀ w, S w → ∃ L, Sat W w (Blk x.1 (scells x.2 bs es) T_seglog_segment :: L) := fun w hw => by obtain ⟨L, hw⟩ := hw; exact ⟨_, hw⟩
    refine ⟨S, ⟨_, h2⟩, ?_⟩
    refine hldX hS1 0 (x := some ⟨b, 0, none⟩) ?_
    refine hldX hS2 1 (x := vK x.2.name) ?_
    have h3 : Sat W w.drew (DkR b d :: SgL a b g p (p.cs.length - 1) x bs es ds l) := h2.sel 8 [7, 0, 1, 2, 3, 4, 5, 6]
    refine dremove_ok (n := x.2.name) h3 fun w45 h4 => tyI (k := .int .i64) ?_
    have h5 : Sat W w45 (SgL a b g p (p.cs.length - 1) x bs es ds (DkR b (d.remove x.2.name).1 :: l)) := h4.sel 8 [1, 2, 3, 4, 5, 6, 7, 0]
    refine ⟨⟨_, h5⟩, ?_⟩
    have h6 := sg_close hx hds h5
    refine ifB_bne (fun c3 => hR1 hk0 hseg c3 w45 (sat_lg.2 ⟨p, hp, h6⟩)) fun c3 => ?_
    have h7 := h6.drew
    refine ⟨fun _ => True, trivial, ?_⟩
    have ei : (p.sl.len : Int) - 1 = ((p.cs.length - 1 : Nat) : Int) := by omega
    have slS : ∀ {Kx : Sl → Prop}, Kx ⟨p.sl.a, p.cs.length - 1, p.sl.cap⟩ → HRun (fun _ => True) .sl P (Instr.sliceAt T_sl_p_seglog_segment p.sl.v none (some (.int .i64 ((p.cs.length - 1 : Nat) : Int))) none) Kx := fun {Kx} hk' => by
      refine ⟨⟨p.sl.a, p.cs.length - 1, p.sl.cap⟩, fun w _ => ?_, hk'⟩
      have := run_sliceHi et_segs (s := p.sl) (hi := ((p.cs.length - 1 : Nat) : Int)) (by omega) (by omega) w (j := .i64)
      rw [this]; simp
    have st : StoreP P T_sl_p_seglog_segment (.pointer (some ((⟨a, 0, none⟩ : Addr).add 3))) (Sl.v ⟨p.sl.a, p.cs.length - 1, p.sl.cap⟩) w45.drew fun w54 => True ∧ next6 w54 := by
      refine stX h7 3 (v := Sl.v ⟨p.sl.a, p.cs.length - 1, p.sl.cap⟩) (hi := (by show 3 < 5; decide)) fun w54 h8 => ⟨trivial, ?_⟩
      let p' : LgP := ⟨p.fr, ⟨p.sl.a, p.cs.length - 1, p.sl.cap⟩, p.cs.take (p.cs.length - 1)⟩
      have h9 : Sat W w54 (OwnS elS p.sl p.cs :: Blk a (lcells b { g with segs := g.segs.dropLast } p') T_seglog_Log :: FrR p.fr :: DkR b (d.remove x.2.name).1 :: l) := h8.sel 4 [2, 0, 1, 3]
      have h10 := own_take h9 (k := p.cs.length - 1) (by omega)
      have h11 : Sat W w54 (LgL a b { g with segs := g.segs.dropLast } p' (DkR b (d.remove x.2.name).1 :: l)) := h10.sel 4 [1, 2, 0, 3]
      have hsN := segN_eq h11
      refine hN hk0 hseg c3 w54 (sat_lg.2 ⟨p', ?_, h11⟩) ?_
      · show (p.cs.take (p.cs.length - 1)).map Prod.snd = g.segs.dropLast
        rw [List.map_take, hp, List.dropLast_eq_take, hpl]
      · rw [hsN]; show p.cs.length - 1 < p.sl.len; omega
    refine ⟨?_, ?_, trivial⟩
    · refine ldX h7 3 (x := p.sl) ⟨trivial, ?_⟩
      refine ldX h7 3 (x := p.sl) ⟨trivial, ?_⟩
      rw [w_i64 (n := (p.sl.len : Int) - 1) (by omega) (by omega), ei]
      exact slS st
    · refine ldX h7 3 (x := p.sl) ⟨trivial, ?_⟩
      refine ldX h7 3 (x := p.sl) ⟨trivial, ?_⟩
      rw [w_i64 (n := (p.sl.len : Int) - 1) (by omega) (by omega), ei]
      exact slS st
end
end Go.Proofs.YtbpcichakchpkaaGreatDoor

/- Layer 8: a log is cut behind an offset, the walk. -/
namespace Go.Proofs.YtbpcichakchpkaaGreatDoor
open Go Go.Pk
/-- ends of frames are small -/
def LgN (g : Lg) : Prop := ∀ s ∈ g.segs, ∀ e ∈ s.ends, 0 ≤ e ∧ e ≤ 1099511627776
section
variable {W w : World} {l : List Res} {K : Value → World → Prop} {a b : Nat} {g : Lg}
set_option maxRecDepth 20000 in
set_option maxHeartbeats 2000000 in
theorem trunc_ok {d : Dk} {to_ : Int} (h : Sat W w (LgR a b g :: DkR b d :: l)) (hb : LgB g) (he : LgE g) (hN : LgN g) (hr : ∀ s ∈ g.segs, s.bt.length ≤ 1073741824) (hn : g.segs.length < 1073741824)
    (hK : ∀ w', Sat W w' (LgR a b (g.trunc d to_).1 :: DkR b (g.trunc d to_).2.1 :: l) → K (.int .i64 (g.trunc d to_).2.2) w') : CallP P F_seglog_Log_Truncate [.pointer (some ⟨a, 0, none⟩), .int .i64 to_] w K := by
  apply c_seglog_Log_Truncate
  unfold S_seglog_Log_Truncate
  refine ifB_intro (fun c => absurd c (by simp)) fun _ => ?_
  refine start_ok h (tyI (k := .int .i64) ?_)
  refine ifB_dec (fun c => ?_) fun c => ?_
  · have e : g.trunc d to_ = (g, d, 13) := by unfold Lg.trunc; rw [if_pos c]
    rw [e] at hK
    exact hK w h
  have htr : g.trunc d to_ = if (Lg.truncL to_ g.segs.length g d).2.2 ≠ 0 then Lg.truncL to_ g.segs.length g d
      else ({ (Lg.truncL to_ g.segs.length g d).1 with sync := min (Lg.truncL to_ g.segs.length g d).1.sync (Lg.truncL to_ g.segs.length g d).1.fin }, (Lg.truncL to_ g.segs.length g d).2.1, 0) := by unfold Lg.trunc; rw [if_neg c]
  generalize hL : Lg.truncL to_ g.segs.length g d = r at *
  refine ⟨fun _ w' => r.2.2 = 0 ∧ LgB r.1 ∧ Sat W w' (LgR a b r.1 :: DkR b r.2.1 :: l), ?_, ?_⟩
  · rintro _ w5 ⟨hr0, hrb, h1⟩
    rw [if_neg (by simp [hr0])] at htr
    rw [htr] at hK
    have h2 := h1.drew
    have emin : (if r.1.fin < r.1.sync then r.1.fin else r.1.sync) = min r.1.sync r.1.fin := by
      rw [Int.min_def]; split <;> split <;> omega
    have fin : ∀ w', Sat W w' (LgR a b r.1 :: DkR b r.2.1 :: l) → StoreP P T_int (.pointer (some ((⟨a, 0, none⟩ : Addr).add 4))) (.int .i64 (if r.1.fin < r.1.sync then r.1.fin else r.1.sync)) w' fun w173 => True ∧ K (.int .i64 0) w173 := fun w' h3 => by
      obtain ⟨p, hp, h4⟩ := sat_lg.1 h3
      refine stX h4 4 (v := .int .i64 (if r.1.fin < r.1.sync then r.1.fin else r.1.sync)) (hi := (by show 4 < 5; decide)) fun w6 h5 => ⟨trivial, hK w6 ?_⟩
      rw [← emin]
      exact sat_lg.2 ⟨p, hp, h5⟩
    refine ⟨fun _ => True, trivial, ?_⟩
    refine ⟨?_, ?_, trivial⟩
    · obtain ⟨p, hp, h3⟩ := sat_lg.1 h2
      refine ldX h3 4 (x := r.1.sync) ⟨trivial, ?_⟩
      refine fin_ok h2 hrb fun w170 h4 => tyI (k := .int .i64) ⟨trivial, ?_⟩
      exact fin w170 h4
    · refine fin_ok h2 hrb fun w175 h4 => tyI (k := .int .i64) ⟨trivial, ?_⟩
      obtain ⟨p, hp, h3⟩ := sat_lg.1 h4
      refine ldX h3 4 (x := r.1.sync) ⟨trivial, ?_⟩
      exact fin w175 h4
  · refine ⟨fun _ w' => ∃ (n : Nat) (g' : Lg) (d' : Dk), g'.segs.length ≤ n ∧ n < 1073741824 ∧ (∀ s ∈ g'.segs, s ∈ g.segs) ∧ Lg.truncL to_ n g' d' = r ∧ Sat W w' (LgR a b g' :: DkR b d' :: l), fun _ w' => segN a w', ⟨g.segs.length, g, d, Nat.le_refl _, hn, fun s hs => hs, hL, h⟩, ?_⟩
    rintro _ w8 ⟨n, g', d', hgn, hn2, hsub, hdr, h1⟩
    obtain ⟨p, hp, h2⟩ := sat_lg.1 h1
    have hol := own_len (h2.up 2) (by decide : 0 < 1)
    have hpl : p.cs.length = g'.segs.length := by rw [← hp]; simp
    have hsN := segN_eq h2
    have hb' : LgB g' := fun s hs => hb s (hsub s hs)
    refine ldX h2 3 (x := p.sl) ?_
    refine ifB_dec (fun c1 => ?_) fun c1 => ?_
    · obtain ⟨m, rfl⟩ : ∃ m, n = m + 1 := ⟨n - 1, by omega⟩
      obtain ⟨x, hx, hlast⟩ := last_at (cs := p.cs) (by omega)
      rw [hp] at hlast
      have hxm : x.2 ∈ g.segs := hsub _ (List.mem_of_getLast? hlast)
      have h3 := h2.drew
      refine ldX h3 3 (x := p.sl) ?_
      refine ldX h3 3 (x := p.sl) ?_
      rw [w_i64 (n := (p.sl.len : Int) - 1) (by omega) (by omega)]
      have ei : ((p.sl.len : Int) - 1).toNat = p.cs.length - 1 := by omega
      refine sg_ptr (i := (p.sl.len : Int) - 1) (x := x) (by omega) (by rw [ei]; exact hx) (h3.up 2) ?_
      obtain ⟨bs, es, ds, hds, h4⟩ := sg_open hx h3
      refine ldX h4 3 (x := bs) ?_
      have hbl := own_len (h4.up 1) (by decide : 0 < 9)
      have hdl : ds.length = x.2.bt.length := by rw [← hds]; simp
      have hrl := hr x.2 hxm
      -- what is done when the batches that stay are known
      have hstep : Lg.truncL to_ (m + 1) g' d' =
          if keepK to_ x.2.bt x.2.bt.length = 0 ∧ 1 < g'.segs.length then
            if (d'.remove x.2.name).2 ≠ 0 then (g', (d'.remove x.2.name).1, (d'.remove x.2.name).2) else Lg.truncL to_ m { g' with segs := g'.segs.dropLast } (d'.remove x.2.name).1
          else if keepK to_ x.2.bt x.2.bt.length = x.2.bt.length then (g', d', 0) else
            if (d'.cut x.2.name (x.2.cutAt (keepK to_ x.2.bt x.2.bt.length))).2 ≠ 0 then (g', (d'.cut x.2.name (x.2.cutAt (keepK to_ x.2.bt x.2.bt.length))).1, (d'.cut x.2.name (x.2.cutAt (keepK to_ x.2.bt x.2.bt.length))).2)
            else (g'.last (x.2.cut (keepK to_ x.2.bt x.2.bt.length)), (d'.cut x.2.name (x.2.cutAt (keepK to_ x.2.bt x.2.bt.length))).1, 0) := by
        rw [Lg.truncL, hlast]
      rw [hdr] at hstep
      have hkl := keepK_le to_ x.2.bt x.2.bt.length
      refine ⟨fun t w' => ∃ k : Nat, t.1 = k ∧ k ≤ x.2.bt.length ∧ keepK to_ x.2.bt x.2.bt.length = keepK to_ x.2.bt k ∧ Sat W w' (SgL a b g' p (p.cs.length - 1) x bs es ds (DkR b d' :: l)), fun t _ => t.1.toNat, ⟨x.2.bt.length, by show ((bs.len : Nat) : Int) = _; omega, Nat.le_refl _, rfl, h4⟩, ?_⟩
      rintro ⟨tk, u⟩ w21 ⟨k, htk, hkb, hkk, h5⟩
      simp only at htk ⊢
      subst htk
      have h6 := h5.drew
      let S : World → Prop := fun w => ∃ L, Sat W w (SgL a b g' p (p.cs.length - 1) x bs es ds L)
      have hS2 : ∀ w, S w → ∃ L, Sat W w (Blk x.1 (scells x.2 bs es) T_seglog_segment :: L) := fun w hw => by obtain ⟨L, hw⟩ := hw; exact ⟨_, hw⟩
      have hS3 : ∀ w, S w → ∃ L, Sat W w (OwnS elB bs ds :: L) := fun w hw => by obtain ⟨L, hw⟩ := hw; exact ⟨_, hw.up 1⟩
      have hS4 : ∀ w, S w → RdC w bs 9 (elB.flat ds) := fun w hw => by obtain ⟨L, hw⟩ := hw; exact (sat_own.1 (hw.up 1)).rdc
      refine ⟨S, ⟨_, h6⟩, ?_⟩
      refine ifB_dec (fun c2 => ?_) fun c2 => ?_
      · obtain ⟨k, rfl⟩ : ∃ q, k = q + 1 := ⟨k - 1, by omega⟩
        have hkd : k < ds.length := by omega
        have hd : ds[k]? = some ds[k] := List.getElem?_eq_getElem hkd
        have hdb : x.2.bt[k]? = some ds[k].bd := by rw [← hds, List.getElem?_map, hd]; rfl
        generalize ds[k] = e at hd hdb
        have hbb := hb x.2 hxm e.bd (List.mem_of_getElem? hdb)
        have eba : e.bd.ba = e.ba := rfl
        have hkst : keepK to_ x.2.bt (k + 1) = if e.bd.fin > to_ then keepK to_ x.2.bt k else k + 1 := by
          rw [keepK, hdb]
        have ek : IntKind.i64.wrap (((k + 1 : Nat) : Int) - 1) = (k : Int) := by rw [w_i64 (by omega) (by omega)]; omega
        refine hldX hS2 3 (x := bs) ?_
        refine hixEl et_batches (E := elB) rfl hS4 ⟨_, h6⟩ (by rw [ek]; omega) (x := e) (by rw [ek, show ((k : Int)).toNat = k by omega]; exact hd) (by rw [ek]; omega) fun a1 ha1 => ?_
        refine ⟨e.ba, fun w hw => run_load1 (by kernel_rfl) (by have := ha1 w hw 0 _ rfl; exact this), ?_⟩
        refine hldX hS2 3 (x := bs) ?_
        refine hixEl et_batches (E := elB) rfl hS4 ⟨_, h6⟩ (by rw [ek]; omega) (x := e) (by rw [ek, show ((k : Int)).toNat = k by omega]; exact hd) (by rw [ek]; omega) fun a2 ha2 => ?_
        refine hldAggC (cs := elB.cells e) ha2 ?_
        have h8 : Sat W w21.drew (OwnS elB bs ds :: Blk x.1 (scells x.2 bs es) T_seglog_segment :: IsR es x.2.ends :: SlR elS.T elS.sz p.sl (elS.flat p.cs) :: All ((p.cs.map elS.own).eraseIdx (p.cs.length - 1)) :: Blk a (lcells b g' p) T_seglog_Log :: FrR p.fr :: DkR b d' :: l) := h6.sel 2 [1, 0]
        obtain ⟨hv, hnum⟩ := bt_rd hd h8
        refine size_ok (d := e) h8 hv fun w32 h9 => tyI (k := .int .i64) ?_
        have h10 : Sat W w32 (SgL a b g' p (p.cs.length - 1) x bs es ds (DkR b d' :: l)) := h9.sel 2 [1, 0]
        refine ⟨⟨_, h10⟩, ?_⟩
        have e1 : e.ba + (if e.ct then 1 else (e.bs.length : Int)) = e.bd.fin := rfl
        rw [e1, w_i64 (n := e.bd.fin) (by
          have hsz : 0 ≤ e.bd.size := by unfold Bd.size; split <;> omega
          have e2 : e.bd.fin = e.bd.ba + e.bd.size := rfl
          omega) (by omega)]
        refine ifB_dec (fun c3 => ?_) fun c3 => ?_
        · rw [if_pos c3] at hkst
          exact ⟨⟨k, ek, by omega, by rw [hkk, hkst], h10⟩, by rw [ek]; show ((k : Int)).toNat < (((k + 1 : Nat) : Int)).toNat; omega⟩
        · rw [if_neg c3] at hkst
          have hkeq := hkst
          refine truncBody_ok (K := K) (g := g') (d := d') hp (sg_close hx hds h10) hx (by omega) (he x.2 hxm) (hN x.2 hxm) hkb ?_ ?_ ?_ ?_ ?_
          · intro q1 q2 q3 w2 q4
            rw [hkk, hkeq, if_pos ⟨q1, q2⟩, if_pos q3] at hstep
            rw [hstep] at htr
            rw [if_pos q3] at htr
            rw [htr] at hK
            exact hK w2 q4
          · intro q1 q2 q3 w2 q4 q5
            rw [hkk, hkeq, if_pos ⟨q1, q2⟩, if_neg (by simp [q3])] at hstep
            refine ⟨⟨m, _, _, ?_, by omega, ?_, hstep.symm, q4⟩, by show segN a w2 < segN a w8; omega⟩
            · show g'.segs.dropLast.length ≤ m; rw [List.length_dropLast]; omega
            · intro s hs; exact hsub s (List.dropLast_subset _ hs)
          · intro q1 q2 w2 q4
            rw [hkk, hkeq, if_neg q1, if_pos q2] at hstep
            rw [hstep]
            exact ⟨rfl, hb', q4⟩
          · intro q1 q2 q3 w2 q4
            rw [hkk, hkeq, if_neg q1, if_neg q2, if_pos q3] at hstep
            rw [hstep] at htr
            rw [if_pos q3] at htr
            rw [htr] at hK
            exact hK w2 q4
          · intro q1 q2 q3 w2 q4
            rw [hkk, hkeq, if_neg q1, if_neg q2, if_neg (by simp [q3])] at hstep
            rw [hstep]
            refine ⟨rfl, fun s hs => ?_, q4⟩
            rcases List.mem_or_eq_of_mem_set hs with hs | rfl
            · exact hb' s hs
            · intro y hy
              exact hb x.2 hxm y (List.mem_of_mem_take hy)
      · have hk0 : k = 0 := by omega
        have hkeq : keepK to_ x.2.bt k = k := by rw [hk0]; rfl
        refine truncBody_ok (K := K) (g := g') (d := d') hp (sg_close hx hds h6) hx (by omega) (he x.2 hxm) (hN x.2 hxm) hkb ?_ ?_ ?_ ?_ ?_
        · intro q1 q2 q3 w2 q4
          rw [hkk, hkeq, if_pos ⟨q1, q2⟩, if_pos q3] at hstep
          rw [hstep] at htr
          rw [if_pos q3] at htr
          rw [htr] at hK
          exact hK w2 q4
        · intro q1 q2 q3 w2 q4 q5
          rw [hkk, hkeq, if_pos ⟨q1, q2⟩, if_neg (by simp [q3])] at hstep
          refine ⟨⟨m, _, _, ?_, by omega, ?_, hstep.symm, q4⟩, by show segN a w2 < segN a w8; omega⟩
          · show g'.segs.dropLast.length ≤ m; rw [List.length_dropLast]; omega
          · intro s hs; exact hsub s (List.dropLast_subset _ hs)
        · intro q1 q2 w2 q4
          rw [hkk, hkeq, if_neg q1, if_pos q2] at hstep
          rw [hstep]
          exact ⟨rfl, hb', q4⟩
        · intro q1 q2 q3 w2 q4
          rw [hkk, hkeq, if_neg q1, if_neg q2, if_pos q3] at hstep
          rw [hstep] at htr
          rw [if_pos q3] at htr
          rw [htr] at hK
          exact hK w2 q4
        · intro q1 q2 q3 w2 q4
          rw [hkk, hkeq, if_neg q1, if_neg q2, if_neg (by simp [q3])] at hstep
          rw [hstep]
          refine ⟨rfl, fun s hs => ?_, q4⟩
          rcases List.mem_or_eq_of_mem_set hs with hs | rfl
          · exact hb' s hs
          · intro y hy
            exact hb x.2 hxm y (List.mem_of_mem_take hy)
    · have hnil : g'.segs = [] := List.length_eq_zero_iff.1 (by omega)
      have hr' : r = (g', d', 0) := by
        rw [← hdr]
        cases n with
        | zero => rfl
        | succ n => rw [Lg.truncL, hnil]; rfl
      rw [hr']
      exact ⟨rfl, hb', h1⟩
end
end Go.Proofs.YtbpcichakchpkaaGreatDoor

/- Layer 8 in plain Lean: a log on a disk that breaks: what is put, flushed, dropped. -/
namespace Go.Proofs.YtbpcichakchpkaaGreatDoor
open Go Go.Pk
/-- up to where a group lasts, as the log says and as the disk says -/
def SyOk (y : Int) (p : Int × List Bd) (s : Int) : Prop := ∃ k, k ≤ p.2.length ∧ ((fsOf (p.2.take k)).length : Int) ≤ s ∧ y ≤ chEnd p.1 (p.2.take k)
/-- a log and its disk, that may have broken -/
structure Lst (n : List UInt8) (g : Lg) (d : Dk) (gs : Gr) (part : List UInt8) : Prop where
  mem : Mem n g gs
  full : ∀ p ∈ gs.dropLast, d.look (segF n p.1) = some ⟨fsOf p.2, (fsOf p.2).length⟩
  last : ∀ p, gs.getLast? = some p → ∃ s, d.look (segF n p.1) = some ⟨fsOf p.2 ++ part, s⟩ ∧ s ≤ (fsOf p.2 ++ part).length ∧ SyOk g.sync p s
  none : gs = [] → g.sync ≤ 0
  live : d.dead = false → part = []
  brk : part = [] ∨ ∃ e : Bd, ∃ t, e.ok ∧ part = (frm e.enc).take t ∧ t < (frm e.enc).length
  only : ∀ f ∈ d.names, ∀ v, fileBase ⟨n, [], 0⟩ f = some v → v ∈ gs.map Prod.fst
theorem Lst.lay {n : List UInt8} {g : Lg} {d : Dk} {gs : Gr} {part : List UInt8} (h : Lst n g d gs part) (ha : d.dead = false) : Lay n g d gs := by
  refine ⟨h.mem.name, h.mem.segs, h.mem.chain, h.mem.start, fun p hp => ?_, h.only⟩
  cases hl : gs.getLast? with
  | none => rw [List.getLast?_eq_none_iff.1 hl] at hp; cases hp
  | some q =>
    have e := getLast_split hl
    rw [e] at hp
    rcases List.mem_append.1 hp with hp | hp
    · exact ⟨_, h.full p hp⟩
    · rw [List.mem_singleton] at hp
      subst hp
      obtain ⟨s, hs, _⟩ := h.last p hl
      rw [h.live ha, List.append_nil] at hs
      exact ⟨s, hs⟩
theorem SyOk.all {p : Int × List Bd} {y : Int} (h : y ≤ chEnd p.1 p.2) : SyOk y p (fsOf p.2).length := ⟨p.2.length, Nat.le_refl _, by rw [List.take_length]; exact Int.le_refl _, by rw [List.take_length]; exact h⟩
theorem chEnd_take {n : Int} {xs : List Bd} (h : Chain n xs) (k : Nat) : chEnd n (xs.take k) ≤ chEnd n xs := by
  have e : xs = xs.take k ++ xs.drop k := (List.take_append_drop k xs).symm
  rw [e] at h
  have h2 := ((chain_app _ _ _).1 h).2
  have h3 := (chain_mem _ _ h2).1
  rw [← chEnd_app, List.take_append_drop] at h3
  exact h3
theorem Lst.syn {n : List UInt8} {g : Lg} {d : Dk} {gs : Gr} {part : List UInt8} (h : Lst n g d gs part) : g.sync ≤ grFin gs := by
  cases hl : gs.getLast? with
  | none =>
    have e := List.getLast?_eq_none_iff.1 hl
    have := h.none e
    rw [e]; exact this
  | some p =>
    obtain ⟨s, _, _, k, _, _, h3⟩ := h.last p hl
    have hc := (gch_mem h.mem.chain (List.mem_of_getLast? hl)).1
    have := chEnd_take hc k
    have e : grFin gs = chEnd p.1 p.2 := by unfold grFin; rw [hl]
    omega
theorem Lst.new (n : List UInt8) : Lst n ⟨n, [], 0⟩ Dk.new [] [] := by
  refine ⟨(lay_new n).mem, (fun p hp => by cases hp), (fun p hp => by cases hp), fun _ => Int.le_refl _, fun _ => rfl, .inl rfl, fun f hf => ?_⟩
  simp [Dk.new, Dk.names] at hf
theorem Lst.arm {n : List UInt8} {g : Lg} {d : Dk} {gs : Gr} {part : List UInt8} (h : Lst n g d gs part) (m : Int) : Lst n g (d.arm m) gs part := by
  unfold Dk.arm
  split
  · exact h
  · exact ⟨h.mem, h.full, h.last, h.none, h.live, h.brk, h.only⟩
/-! ### on a dead disk nothing is done -/
theorem dead_append {d : Dk} {m b : List UInt8} (hd : d.dead = true) : d.append m b = (d, 9) := by unfold Dk.append; rw [if_pos hd]
theorem dead_sync {d : Dk} {m : List UInt8} (hd : d.dead = true) : d.sync m = (d, 9) := by unfold Dk.sync Dk.find; rw [if_pos hd]
theorem dead_flush {g : Lg} {d : Dk} (hd : d.dead = true) : (g.flush d).1 = g ∧ (g.flush d).2.1 = d := by
  unfold Lg.flush
  split
  · exact ⟨rfl, rfl⟩
  · rw [dead_sync hd]
    rw [if_neg (show ¬ (9 : Int) = 0 by decide)]
    exact ⟨rfl, rfl⟩
theorem dead_roll {g : Lg} {d : Dk} (hd : d.dead = true) : (g.roll d).1 = g ∧ (g.roll d).2.1 = d := by
  have hg : ∀ g : Lg, (g.grow d).1 = g ∧ (g.grow d).2.1 = d := fun g => by
    unfold Lg.grow
    rw [dead_append hd, if_neg (show ¬ (9 : Int) = 0 by decide)]
    exact ⟨rfl, rfl⟩
  unfold Lg.roll
  split
  · exact hg g
  · split
    · exact ⟨rfl, rfl⟩
    · have hf := dead_flush (g := g) hd
      split
      · rw [hf.1, hf.2]; exact hg g
      · exact hf
theorem dead_put {g : Lg} {d : Dk} {b : Bd} (hd : d.dead = true) : (g.put d b).1 = g ∧ (g.put d b).2.1 = d := by
  have hr := dead_roll (g := g) hd
  unfold Lg.put
  split
  · exact ⟨rfl, rfl⟩
  · split
    · exact ⟨rfl, rfl⟩
    · split
      · exact hr
      · split
        · exact hr
        · rw [hr.2, dead_append hd]
          rw [if_neg (show ¬ (9 : Int) = 0 by decide)]
          exact ⟨hr.1, rfl⟩
/-! ### a disk that lives -/
theorem Lst.flush {n : List UInt8} {g : Lg} {d : Dk} {gs : Gr} {part : List UInt8} (h : Lst n g d gs part) (hs : Small gs) : Lst n (g.flush d).1 (g.flush d).2.1 gs part := by
  by_cases hd : d.dead = true
  · have := dead_flush (g := g) hd
    rw [this.1, this.2]; exact h
  · have ha : d.dead = false := by simpa using hd
    have hlay := h.lay ha
    have hp0 := h.live ha
    obtain ⟨f1, f2, f3, f4, f5, f6, f7⟩ := lay_flush hlay ha hs
    cases hl : gs.getLast? with
    | none =>
      rw [hl] at f7
      rw [f7.1, f7.2]; exact h
    | some p =>
      rw [hl] at f7
      have hpm := List.mem_of_getLast? hl
      have e := getLast_split hl
      have hsp := small_mem h.mem.chain hs hpm
      have hfin : grFin gs = chEnd p.1 p.2 := by unfold grFin; rw [hl]
      refine ⟨f2.mem, fun q hq => ?_, fun q hq => ?_, fun h0 => ?_, fun _ => hp0, h.brk, f2.only⟩
      · unfold Dk.look
        rw [f7.2, lookL_put]
        split
        · rename_i heq
          have hq' : q ∈ gs := by rw [e]; exact List.mem_append_left _ hq
          have hsq := small_mem h.mem.chain hs hq'
          have hv := segF_inj n hsp.1 hsp.2 hsq.1 hsq.2 heq
          have hpw := gch_bases h.mem.chain
          rw [e, List.map_append, List.pairwise_append] at hpw
          have := hpw.2.2 q.1 (List.mem_map_of_mem hq) p.1 (by simp)
          omega
        · exact h.full q hq
      · rw [hl] at hq
        cases hq
        refine ⟨((fsOf p.2).length : Int), ?_, ?_, ?_⟩
        · unfold Dk.look
          rw [f7.2, lookL_put, if_pos rfl, hp0, List.append_nil]
        · rw [hp0, List.append_nil]; exact Int.le_refl _
        · exact SyOk.all (by rw [f7.1, hfin]; exact Int.le_refl _)
      · rw [h0] at hpm; cases hpm
theorem Lst.grow {n : List UInt8} {g : Lg} {d : Dk} {gs : Gr} (h : Lst n g d gs []) (hn : n ≠ [] ∧ n.length ≤ 8) (ha : d.dead = false) (hs : Small gs) (hne : ∀ q ∈ gs, q.2 ≠ [])
    (hful : ∀ p, gs.getLast? = some p → d.look (segF n p.1) = some ⟨fsOf p.2, (fsOf p.2).length⟩) :
    ((g.grow d).2.2 = 3 ∧ (g.grow d).1 = g ∧ (g.grow d).2.1 = d) ∨ ((g.grow d).2.2 = 0 ∧ Lst n (g.grow d).1 (g.grow d).2.1 (gs ++ [(grFin gs, [])]) [] ∧ (g.grow d).2.1.dead = false) := by
  rcases lay_grow (h.lay ha) hn ha hs hne with h1 | ⟨h1, h2, h3, h4, h5, h6, h7, h8⟩
  · exact .inl h1
  · refine .inr ⟨h1, ⟨h2.mem, fun p hp => ?_, fun p hp => ?_, fun h0 => ?_, fun _ => rfl, .inl rfl, h2.only⟩, h3⟩
    · rw [List.dropLast_concat] at hp
      unfold Dk.look
      rw [h7, lookL_put, if_neg]
      · cases hl : gs.getLast? with
        | none => rw [List.getLast?_eq_none_iff.1 hl] at hp; cases hp
        | some q =>
          have e := getLast_split hl
          have hp2 := hp
          rw [e] at hp2
          rcases List.mem_append.1 hp2 with hp2 | hp2
          · exact h.full p hp2
          · rw [List.mem_singleton] at hp2
            subst hp2
            exact hful p hl
      · intro e
        obtain ⟨s, hs2⟩ := (h.lay ha).data p hp
        rw [e, hs2] at h8
        cases h8
    · rw [List.getLast?_append] at hp
      simp only [List.getLast?_singleton, Option.some_or, Option.some.injEq] at hp
      subst hp
      refine ⟨0, ?_, ?_, 0, Nat.le_refl _, Int.le_refl _, ?_⟩
      · unfold Dk.look
        rw [h7, lookL_put, if_pos rfl]
        unfold Dk.fl0
        rw [h8]; rfl
      · simp [fsOf]
      · rw [h6]; exact h.syn
    · simp at h0
theorem Lst.roll {n : List UInt8} {g : Lg} {d : Dk} {gs : Gr} (h : Lst n g d gs []) (hn : n ≠ [] ∧ n.length ≤ 8) (ha : d.dead = false) (hs : Small gs) :
    ((g.roll d).2.2 = 3 ∧ Lst n (g.roll d).1 (g.roll d).2.1 gs [] ∧ (g.roll d).2.1.dead = false) ∨ ((g.roll d).2.2 = 0 ∧ Lst n (g.roll d).1 (g.roll d).2.1 (rollG gs) [] ∧ (g.roll d).2.1.dead = false) := by
  unfold Lg.roll rollG
  rw [h.mem.segs, grSegs_last]
  cases hl : gs.getLast? with
  | none =>
    simp only [Option.map_none]
    have e := List.getLast?_eq_none_iff.1 hl
    rcases h.grow hn ha hs (fun q hq => by rw [e] at hq; cases hq) (fun p hp => by rw [hl] at hp; cases hp) with ⟨h1, h2, h3⟩ | ⟨h1, h2, h3⟩
    · exact .inl ⟨h1, by rw [h2, h3]; exact h, by rw [h3]; exact ha⟩
    · refine .inr ⟨h1, ?_, h3⟩
      subst e; exact h2
  | some p =>
    simp only [Option.map_some]
    have eb : (mkSg p.1 (segF n p.1) p.2).bytes = (fsOf p.2).length := rfl
    rw [eb]
    by_cases hc : (fsOf p.2).length < 512
    · rw [if_pos (by omega), if_pos hc]
      exact .inr ⟨rfl, h, ha⟩
    · rw [if_neg (by omega), if_neg hc]
      obtain ⟨f1, f2, f3, f4, f5, f6, f7⟩ := lay_flush (h.lay ha) ha hs
      have hF := h.flush hs
      rw [if_pos f1]
      rw [hl] at f7
      have hne : ∀ q ∈ gs, q.2 ≠ [] := by
        intro q hq hq0
        have e := getLast_split hl
        have hg := h.mem.chain
        rw [e] at hg hq
        have h2 := (gch_snoc _ _).1 hg
        rcases List.mem_append.1 hq with hq | hq
        · exact h2.2.2.2 q hq hq0
        · rw [List.mem_singleton] at hq
          subst hq
          rw [hq0] at hc
          exact hc (by decide)
      rcases hF.grow hn f3 hs hne (fun q hq => by
        rw [hl] at hq; cases hq
        unfold Dk.look
        rw [f7.2, lookL_put, if_pos rfl]) with ⟨h1, h2, h3⟩ | ⟨h1, h2, h3⟩
      · exact .inl ⟨h1, by rw [h2, h3]; exact hF, by rw [h3]; exact f3⟩
      · exact .inr ⟨h1, h2, h3⟩
theorem Lst.put {n : List UInt8} {g : Lg} {d : Dk} {gs : Gr} {part : List UInt8} {b : Bd} (h : Lst n g d gs part) (hn : n ≠ [] ∧ n.length ≤ 8) (hs : Small gs) (hnum : b.dc.num) (hba : b.ba = g.fin) :
    ∃ gs' part', Lst n (g.put d b).1 (g.put d b).2.1 gs' part' ∧ (allB gs').length ≤ (allB gs).length + 1 ∧ grFin gs' ≤ grFin gs + 16 := by
  by_cases hd : d.dead = true
  · have := dead_put (g := g) (b := b) hd
    rw [this.1, this.2]
    exact ⟨gs, part, h, by omega, by omega⟩
  have ha : d.dead = false := by simpa using hd
  have hp0 := h.live ha
  subst hp0
  by_cases hc : b.chk ≠ 0
  · have e : g.put d b = (g, d, b.chk) := by unfold Lg.put; rw [if_pos hc]
    rw [e]
    exact ⟨gs, [], h, by omega, by omega⟩
  have hc : b.chk = 0 := Classical.not_not.1 hc
  have hbs := Bd.size_pos hc
  have hfin := mem_fin h.mem
  unfold Lg.put
  rw [if_neg (by simp [hc]), if_neg (by simp [hba])]
  have hg := rollG_gch h.mem.chain
  rcases h.roll hn ha hs with ⟨h1, h2, h3⟩ | ⟨h1, h2, h3⟩
  · rw [if_pos (by rw [h1]; decide)]
    exact ⟨gs, [], h2, by omega, by omega⟩
  · rw [if_neg (by rw [h1]; decide)]
    have hne := rollG_ne gs
    have hsr := rollG_small h.mem.chain hs
    have hgl : (g.roll d).1.segs.getLast? = (rollG gs).getLast?.map fun p => mkSg p.1 (segF n p.1) p.2 := by rw [h2.mem.segs, grSegs_last]
    rw [hgl]
    cases hl : (rollG gs).getLast? with
    | none => exact absurd (List.getLast?_eq_none_iff.1 hl) hne
    | some p =>
      have hpm : p ∈ rollG gs := List.mem_of_getLast? hl
      have hsp := small_mem h2.mem.chain hsr hpm
      have esp := getLast_split hl
      simp only [Option.map_some]
      have en : (mkSg p.1 (segF n p.1) p.2).name = segF n p.1 := rfl
      rw [en]
      obtain ⟨s, hs1, hs2, hs3⟩ := h2.last p hl
      rw [List.append_nil] at hs1 hs2
      have sep : ∀ q ∈ (rollG gs).dropLast, segF n p.1 ≠ segF n q.1 := fun q hq heq => by
        have hq' : q ∈ rollG gs := by rw [esp]; exact List.mem_append_left _ hq
        have hsq := small_mem h2.mem.chain hsr hq'
        have hv := segF_inj n hsp.1 hsp.2 hsq.1 hsq.2 heq
        have hpw := gch_bases h2.mem.chain
        rw [esp, List.map_append, List.pairwise_append] at hpw
        have := hpw.2.2 q.1 (List.mem_map_of_mem hq) p.1 (by simp)
        omega
      rcases append_cases (b := frm b.enc) h3 (segF_ok hn hsp.1 hsp.2) with hcc | ⟨k, hk, e2, e3, e4, e5, e6⟩
      · rw [hcc, if_neg (show ¬ (3 : Int) = 0 by decide)]
        exact ⟨rollG gs, [], h2, by rw [rollG_allB]; omega, by rw [hg.2.1]; omega⟩
      · have hf0 : ((g.roll d).2.1.fl0 (segF n p.1)) = ⟨fsOf p.2, s⟩ := by unfold Dk.fl0; rw [hs1]
        rw [hf0] at e5
        by_cases hkl : k < (frm b.enc).length
        · have e2' : ((g.roll d).2.1.append (segF n p.1) (frm b.enc)).2 = 9 := by rw [e2, if_pos hkl]
          rw [if_neg (by rw [e2']; decide)]
          refine ⟨rollG gs, (frm b.enc).take k, ⟨h2.mem, fun q hq => ?_, fun q hq => ?_, fun h0 => absurd h0 hne, fun hda => ?_, .inr ⟨b, k, ⟨hc, hnum⟩, rfl, hkl⟩, fun f hf v hv => ?_⟩, by rw [rollG_allB]; omega, by rw [hg.2.1]; omega⟩
          · unfold Dk.look
            rw [e5, lookL_put, if_neg (sep q hq)]
            exact h2.full q hq
          · rw [hl] at hq
            cases hq
            refine ⟨s, ?_, ?_, hs3⟩
            · unfold Dk.look
              rw [e5, lookL_put, if_pos rfl]
            · rw [List.length_append]; omega
          · simp only at hda
            rw [e3, decide_eq_true hkl] at hda
            cases hda
          · rcases append_names hf with h4 | h4
            · exact h2.only f h4 v hv
            · rw [h4, fileBase_segF n hsp.1 hsp.2] at hv
              cases hv
              exact List.mem_map_of_mem hpm
        · have hkf : k = (frm b.enc).length := by omega
          subst hkf
          have e2' : ((g.roll d).2.1.append (segF n p.1) (frm b.enc)).2 = 0 := by rw [e2, if_neg hkl]
          rw [if_pos e2']
          rw [List.take_length] at e5
          have hlp := lay_push (h2.lay h3) hsr hl ⟨hc, hnum⟩ (by rw [hba, hfin, hg.2.1]) e5 rfl
          have hgf := addG_gch (b := b) h2.mem.chain hne ⟨hc, hnum⟩ (by rw [hba, hfin, hg.2.1])
          refine ⟨addG (rollG gs) b, [], ⟨hlp.mem, fun q hq => ?_, fun q hq => ?_, fun h0 => ?_, fun _ => rfl, .inl rfl, hlp.only⟩, Nat.le_of_eq put_len, ?_⟩
          · rw [addG_last hl, List.dropLast_concat] at hq
            unfold Dk.look
            rw [e5, lookL_put, if_neg (sep q hq)]
            exact h2.full q hq
          · rw [addG_last hl, List.getLast?_append] at hq
            simp only [List.getLast?_singleton, Option.some_or, Option.some.injEq] at hq
            subst hq
            obtain ⟨k2, q1, q2, q3⟩ := hs3
            refine ⟨s, ?_, ?_, k2, ?_, ?_, ?_⟩
            · unfold Dk.look
              rw [e5, lookL_put, if_pos rfl]
              simp [fsOf_app, fsOf_one]
            · simp only [List.append_nil]
              rw [fsOf_app, List.length_append]; omega
            · simp; omega
            · simp only
              rw [List.take_append_of_le_length q1]; exact q2
            · simp only
              rw [List.take_append_of_le_length q1]; exact q3
          · rw [addG_last hl] at h0; simp at h0
          · rw [hgf.2.1]
            have e1 : b.fin = b.ba + b.size := rfl
            omega
end Go.Proofs.YtbpcichakchpkaaGreatDoor

/- Layer 8 in plain Lean: a log on a disk that breaks: dropped, truncated. -/
namespace Go.Proofs.YtbpcichakchpkaaGreatDoor
open Go Go.Pk
theorem lookL_del {n m : List UInt8} (h : n ≠ m) : ∀ (l : List (List UInt8 × Fl)), Dk.lookL (Dk.delL l n) m = Dk.lookL l m
  | [] => rfl
  | p :: l => by
    unfold Dk.delL
    by_cases hp : p.1 = n
    · rw [if_pos hp]
      simp only [Dk.lookL]
      rw [if_neg (by rw [hp]; exact h)]
    · rw [if_neg hp]
      simp only [Dk.lookL, lookL_del h l]
theorem names_del (n : List UInt8) : ∀ (l : List (List UInt8 × Fl)), ((Dk.delL l n).map Prod.fst).Sublist (l.map Prod.fst)
  | [] => .slnil
  | p :: l => by
    unfold Dk.delL
    by_cases hp : p.1 = n
    · rw [if_pos hp, List.map_cons]; exact .cons _ (List.Sublist.refl _)
    · rw [if_neg hp, List.map_cons, List.map_cons]; exact .cons_cons _ (names_del n l)
theorem del_gone (n : List UInt8) : ∀ (l : List (List UInt8 × Fl)), (l.map Prod.fst).Nodup → n ∉ (Dk.delL l n).map Prod.fst
  | [], _ => by simp [Dk.delL]
  | p :: l, h => by
    rw [List.map_cons, List.nodup_cons] at h
    unfold Dk.delL
    by_cases hp : p.1 = n
    · rw [if_pos hp, ← hp]; exact h.1
    · rw [if_neg hp, List.map_cons, List.mem_cons]
      rintro (h1 | h1)
      · exact hp h1.symm
      · exact del_gone n l h.2 h1
theorem base_name {n f : List UInt8} {v : Int} (h : fileBase ⟨n, [], 0⟩ f = some v) : f = segF n v := by
  unfold fileBase at h
  split at h
  · split at h
    · split at h
      · rename_i v' _ hfv
        cases h
        exact hfv
      · cases h
    · cases h
  · cases h
theorem remove_alive {d : Dk} {n : List UInt8} {f : Fl} (ha : d.dead = false) (hl : d.look n = some f) : (d.remove n).2 = 0 ∧ (d.remove n).1.files = Dk.delL d.files n ∧ (d.remove n).1.dead = false := by
  unfold Dk.remove
  rw [find_live ha hl]
  exact ⟨rfl, rfl, ha⟩
theorem allB_tail {p : Int × List Bd} {gs : Gr} : (allB gs).length ≤ (allB (p :: gs)).length := by
  have e : allB (p :: gs) = p.2 ++ allB gs := by simp [allB]
  rw [e, List.length_append]; omega
theorem grFin_tail {p q : Int × List Bd} {gs : Gr} : grFin (p :: q :: gs) = grFin (q :: gs) := by unfold grFin; rw [List.getLast?_cons_cons]
/-- segments are taken away from the front -/
theorem Lst.dropL {n : List UInt8} {before : Int} : ∀ (m : Nat) {g : Lg} {d : Dk} {gs : Gr}, Lst n g d gs [] → d.dead = false → d.names.Nodup → Small gs →
    ∃ gs', Lst n (Lg.dropL before m g d).1 (Lg.dropL before m g d).2.1 gs' [] ∧ (Lg.dropL before m g d).2.1.dead = false ∧ (allB gs').length ≤ (allB gs).length ∧ grFin gs' ≤ grFin gs
  | 0, g, d, gs, h, ha, _, _ => ⟨gs, h, ha, Nat.le_refl _, Int.le_refl _⟩
  | m + 1, g, d, gs, h, ha, hnd, hs => by
    match hgs : gs with
    | [] =>
      rw [Lg.dropL_few (by rw [h.mem.segs]; simp [grSegs])]
      exact ⟨[], h, ha, Nat.le_refl _, Int.le_refl _⟩
    | [p] =>
      rw [Lg.dropL_few (by rw [h.mem.segs]; simp [grSegs])]
      exact ⟨[p], h, ha, Nat.le_refl _, Int.le_refl _⟩
    | p :: q :: rest =>
      have hseg : g.segs = mkSg p.1 (segF n p.1) p.2 :: mkSg q.1 (segF n q.1) q.2 :: grSegs n rest := h.mem.segs
      rw [Lg.dropL, hseg]
      simp only
      by_cases hb : (mkSg q.1 (segF n q.1) q.2).base ≤ before
      · rw [if_pos hb]
        have hlk := h.full p (by simp)
        have en : (mkSg p.1 (segF n p.1) p.2).name = segF n p.1 := rfl
        rw [en]
        obtain ⟨r1, r2, r3⟩ := remove_alive ha hlk
        rw [if_neg (by simp [r1])]
        have hch := h.mem.chain
        have hsm : ∀ x ∈ p :: q :: rest, 0 ≤ x.1 ∧ x.1 < 100000000 := fun x hx => small_mem hch hs hx
        have hpw := gch_bases hch
        rw [List.map_cons, List.pairwise_cons] at hpw
        have hne : ∀ x ∈ q :: rest, segF n p.1 ≠ segF n x.1 := fun x hx heq => by
          have h1 := hsm p (by simp)
          have h2 := hsm x (by simp [List.mem_cons.1 hx])
          have h3 := segF_inj n h1.1 h1.2 h2.1 h2.2 heq
          have := hpw.1 x.1 (List.mem_map_of_mem hx)
          omega
        have hL : Lst n { g with segs := mkSg q.1 (segF n q.1) q.2 :: grSegs n rest } (d.remove (segF n p.1)).1 (q :: rest) [] := by
          refine ⟨⟨h.mem.name, rfl, hch.2.2.2, (hsm q (by simp)).1⟩, fun x hx => ?_, fun x hx => ?_, (fun h0 => by cases h0), fun _ => rfl, .inl rfl, fun f hf v hv => ?_⟩
          · unfold Dk.look
            rw [r2, lookL_del (hne x (List.dropLast_subset _ hx))]
            refine h.full x ?_
            rw [List.dropLast_cons_of_ne_nil (by simp)]
            exact List.mem_cons_of_mem _ hx
          · obtain ⟨s, q1, q2, q3⟩ := h.last x (by rw [List.getLast?_cons_cons]; exact hx)
            refine ⟨s, ?_, q2, q3⟩
            unfold Dk.look
            rw [r2, lookL_del (hne x (List.mem_of_getLast? hx))]
            exact q1
          · have hf1 : f ∈ d.names := by
              unfold Dk.names at hf
              rw [r2] at hf
              exact (names_del _ _).subset hf
            have := h.only f hf1 v hv
            rw [List.map_cons, List.mem_cons] at this
            rcases this with h1 | h1
            · exfalso
              have hfn := base_name hv
              rw [h1] at hfn
              subst hfn
              have := del_gone (segF n p.1) d.files hnd
              unfold Dk.names at hf
              rw [r2] at hf
              exact this hf
            · exact h1
        have hs2 : Small (q :: rest) := ⟨(hsm q (by simp)).1, by have := hs.2; rw [grFin_tail] at this; exact this⟩
        have hnd2 : (d.remove (segF n p.1)).1.names.Nodup := by
          unfold Dk.names; rw [r2]; exact hnd.sublist (names_del _ _)
        obtain ⟨gs', k1, k2, k3, k4⟩ := Lst.dropL m hL r3 hnd2 hs2
        refine ⟨gs', k1, k2, Nat.le_trans k3 allB_tail, by rw [grFin_tail]; exact k4⟩
      · rw [if_neg hb]
        exact ⟨p :: q :: rest, h, ha, Nat.le_refl _, Int.le_refl _⟩
theorem Lst.drop {n : List UInt8} {before : Int} {g : Lg} {d : Dk} {gs : Gr} (h : Lst n g d gs []) (ha : d.dead = false) (hnd : d.names.Nodup) (hs : Small gs) :
    ∃ gs', Lst n (g.drop d before).1 (g.drop d before).2.1 gs' [] ∧ (g.drop d before).2.1.dead = false ∧ (allB gs').length ≤ (allB gs).length ∧ grFin gs' ≤ grFin gs := Lst.dropL _ h ha hnd hs
theorem fsOf_take_le (bs : List Bd) {i j : Nat} (h : i ≤ j) : (fsOf (bs.take i)).length ≤ (fsOf (bs.take j)).length := by
  have e : bs.take j = bs.take i ++ (bs.drop i).take (j - i) := by
    rw [← List.take_add]; congr 1; omega
  rw [e, fsOf_app, List.length_append]; omega
theorem endsF_get : ∀ (bs : List Bd) (n : Int) (k : Nat), k < bs.length → (endsF n bs).getD k 0 = n + (fsOf (bs.take (k + 1))).length
  | [], _, _, h => by simp at h
  | x :: bs, n, 0, _ => by simp [endsF, fsOf]
  | x :: bs, n, k + 1, h => by
    have ih := endsF_get bs (n + (frm x.enc).length) k (by simpa using h)
    have e : fsOf ((x :: bs).take (k + 1 + 1)) = frm x.enc ++ fsOf (bs.take (k + 1)) := by simp [fsOf]
    rw [e, List.length_append]
    simp only [endsF]
    rw [List.getD_cons_succ, ih]; omega
theorem endsF_take : ∀ (bs : List Bd) (n : Int) (k : Nat), (endsF n bs).take k = endsF n (bs.take k)
  | [], _, k => by simp [endsF]
  | x :: bs, n, 0 => by simp [endsF]
  | x :: bs, n, k + 1 => by simp only [endsF, List.take_succ_cons, endsF_take bs]
theorem mkSg_cut {v : Int} {f : List UInt8} {bs : List Bd} {k : Nat} (hk : k ≤ bs.length) : (mkSg v f bs).cut k = mkSg v f (bs.take k) ∧ (mkSg v f bs).cutAt k = ((fsOf (bs.take k)).length : Nat) := by
  have e2 : (mkSg v f bs).cutAt k = ((fsOf (bs.take k)).length : Nat) := by
    unfold Sg.cutAt
    by_cases h0 : k = 0
    · rw [if_pos h0, h0]; simp [fsOf]
    · rw [if_neg h0]
      show (endsF 0 bs).getD (k - 1) 0 = _
      rw [endsF_get bs 0 (k - 1) (by omega), show k - 1 + 1 = k by omega]; omega
  refine ⟨?_, e2⟩
  unfold Sg.cut
  rw [e2]
  show (⟨v, f, _, bs.take k, (endsF 0 bs).take k⟩ : Sg) = _
  rw [endsF_take]; rfl
theorem cut_alive {d : Dk} {n : List UInt8} {f : Fl} {k : Nat} (ha : d.dead = false) (hl : d.look n = some f) (hk : k ≤ f.data.length) : (d.cut n k).2 = 0 ∧ (d.cut n k).1.files = Dk.putL d.files n ⟨f.data.take k, min f.sync k⟩ ∧ (d.cut n k).1.dead = false := by
  unfold Dk.cut
  rw [find_live ha hl]
  simp only
  rw [if_neg (by omega)]
  simp only [Int.toNat_natCast]
  exact ⟨trivial, trivial, ha⟩
theorem allB_dropLast (gs : Gr) : (allB gs.dropLast).length ≤ (allB gs).length := by
  cases hl : gs.getLast? with
  | none => rw [List.getLast?_eq_none_iff.1 hl]; simp [allB]
  | some p =>
    have e := getLast_split hl
    conv => rhs; rw [e]
    rw [allB_app, List.length_append]; omega
/-- batches are taken away from behind -/
theorem Lst.truncL {n : List UInt8} {to_ : Int} : ∀ (m : Nat) {g : Lg} {d : Dk} {gs : Gr}, Lst n { g with sync := min g.sync g.fin } d gs [] → d.dead = false → d.names.Nodup → Small gs →
    ∃ gs', Lst n { (Lg.truncL to_ m g d).1 with sync := min (Lg.truncL to_ m g d).1.sync (Lg.truncL to_ m g d).1.fin } (Lg.truncL to_ m g d).2.1 gs' [] ∧ (Lg.truncL to_ m g d).2.2 = 0 ∧ (Lg.truncL to_ m g d).2.1.dead = false ∧ (allB gs').length ≤ (allB gs).length ∧ grFin gs' ≤ grFin gs
  | 0, g, d, gs, h, ha, _, _ => ⟨gs, h, rfl, ha, Nat.le_refl _, Int.le_refl _⟩
  | m + 1, g, d, gs, h, ha, hnd, hs => by
    have hseg : g.segs = grSegs n gs := h.mem.segs
    rw [Lg.truncL, hseg, grSegs_last]
    cases hl : gs.getLast? with
    | none => exact ⟨gs, h, rfl, ha, Nat.le_refl _, Int.le_refl _⟩
    | some p =>
      simp only [Option.map_some]
      have esp := getLast_split hl
      have hpm := List.mem_of_getLast? hl
      have hch := h.mem.chain
      have hsm : ∀ x ∈ gs, 0 ≤ x.1 ∧ x.1 < 100000000 := fun x hx => small_mem hch hs hx
      have hsp := hsm p hpm
      have hfin : g.fin = grFin gs := mem_fin (n := n) (g := { g with sync := min g.sync g.fin }) h.mem
      have hgf : grFin gs = chEnd p.1 p.2 := by unfold grFin; rw [hl]
      have hcp := (gch_mem hch hpm).1
      have hch2 := hch
      rw [esp] at hch2
      have hg3 := (gch_snoc _ _).1 hch2
      have sep : ∀ q ∈ gs.dropLast, segF n p.1 ≠ segF n q.1 := fun q hq heq => by
        have hsq := hsm q (List.dropLast_subset _ hq)
        have hv := segF_inj n hsp.1 hsp.2 hsq.1 hsq.2 heq
        have hpw := gch_bases hch
        rw [esp, List.map_append, List.pairwise_append] at hpw
        have := hpw.2.2 q.1 (List.mem_map_of_mem hq) p.1 (by simp)
        omega
      obtain ⟨s, l1, l2, l3⟩ := h.last p hl
      rw [List.append_nil] at l1 l2
      have en : (mkSg p.1 (segF n p.1) p.2).name = segF n p.1 := rfl
      have ebt : (mkSg p.1 (segF n p.1) p.2).bt = p.2 := rfl
      rw [en, ebt]
      have hk := keepK_le to_ p.2 p.2.length
      generalize keepK to_ p.2 p.2.length = k at *
      by_cases hc1 : k = 0 ∧ 1 < (grSegs n gs).length
      · rw [if_pos hc1]
        obtain ⟨r1, r2, r3⟩ := remove_alive ha l1
        rw [if_neg (by simp [r1])]
        have hlen : 1 < gs.length := by have := hc1.2; unfold grSegs at this; simpa using this
        have hdne : gs.dropLast ≠ [] := by
          intro h0
          have := congrArg List.length h0
          simp at this; omega
        cases hq : gs.dropLast.getLast? with
        | none => exact absurd (List.getLast?_eq_none_iff.1 hq) hdne
        | some q =>
          have hgd : grFin gs.dropLast = chEnd q.1 q.2 := by unfold grFin; rw [hq]
          have hqf := h.full q (List.mem_of_getLast? hq)
          have hst : grStart gs.dropLast = grStart gs := by
            conv => rhs; rw [esp]
            cases hd : gs.dropLast with
            | nil => exact absurd hd hdne
            | cons x xs => rfl
          have hsg : (grSegs n gs).dropLast = grSegs n gs.dropLast := by unfold grSegs; rw [List.map_dropLast]
          have hfd : ({ g with segs := (grSegs n gs).dropLast } : Lg).fin = grFin gs.dropLast := by
            unfold Lg.fin grFin
            simp only
            rw [hsg, grSegs_last]
            cases gs.dropLast.getLast? with
            | none => rfl
            | some y => exact mkSg_fin
          have hle : grFin gs.dropLast ≤ grFin gs := by
            rw [hgd]
            exact (gch_mem hch (List.dropLast_subset _ (List.mem_of_getLast? hq))).2.2
          have hL : Lst n { ({ g with segs := (grSegs n gs).dropLast } : Lg) with sync := min g.sync ({ g with segs := (grSegs n gs).dropLast } : Lg).fin } (d.remove (segF n p.1)).1 gs.dropLast [] := by
            refine ⟨⟨h.mem.name, hsg, hg3.1, by rw [hst]; exact h.mem.start⟩, fun x hx => ?_, fun x hx => ?_, fun h0 => absurd h0 hdne, fun _ => rfl, .inl rfl, fun f hf v hv => ?_⟩
            · unfold Dk.look
              rw [r2, lookL_del (sep x (List.dropLast_subset _ hx))]
              exact h.full x (List.dropLast_subset _ hx)
            · rw [hq] at hx
              cases hx
              refine ⟨((fsOf q.2).length : Int), ?_, by rw [List.append_nil]; exact Int.le_refl _, SyOk.all ?_⟩
              · unfold Dk.look
                rw [r2, lookL_del (sep q (List.mem_of_getLast? hq)), List.append_nil]
                exact hqf
              · simp only
                rw [hfd, hgd]; exact Int.min_le_right _ _
            · have hf1 : f ∈ d.names := by
                unfold Dk.names at hf
                rw [r2] at hf
                exact (names_del _ _).subset hf
              have := h.only f hf1 v hv
              rw [esp, List.map_append, List.mem_append] at this
              rcases this with h1 | h1
              · exact h1
              · exfalso
                simp only [List.map_cons, List.map_nil, List.mem_singleton] at h1
                have hfn := base_name hv
                rw [h1] at hfn
                subst hfn
                have := del_gone (segF n p.1) d.files hnd
                unfold Dk.names at hf
                rw [r2] at hf
                exact this hf
          have hs2 : Small gs.dropLast := ⟨by rw [hst]; exact hs.1, by have := hs.2; omega⟩
          have hnd2 : (d.remove (segF n p.1)).1.names.Nodup := by
            unfold Dk.names; rw [r2]; exact hnd.sublist (names_del _ _)
          obtain ⟨gs', k1, k2, k3, k4, k5⟩ := Lst.truncL m hL r3 hnd2 hs2
          exact ⟨gs', k1, k2, k3, Nat.le_trans k4 (allB_dropLast gs), by omega⟩
      · rw [if_neg hc1]
        by_cases hc2 : k = p.2.length
        · rw [if_pos hc2]
          exact ⟨gs, h, rfl, ha, Nat.le_refl _, Int.le_refl _⟩
        · rw [if_neg hc2]
          obtain ⟨m1, m2⟩ := mkSg_cut (v := p.1) (f := segF n p.1) hk
          rw [m2]
          have hkl : (fsOf (p.2.take k)).length ≤ (fsOf p.2).length := by
            have := fsOf_take_le p.2 hk
            rw [List.take_length] at this; exact this
          obtain ⟨c1, c2, c3⟩ := cut_alive (k := (fsOf (p.2.take k)).length) ha l1 hkl
          rw [if_neg (by simp [c1]), m1]
          have hdat : (fsOf p.2).take (fsOf (p.2.take k)).length = fsOf (p.2.take k) := by
            have e : fsOf p.2 = fsOf (p.2.take k) ++ fsOf (p.2.drop k) := by rw [← fsOf_app, List.take_append_drop]
            rw [e, List.take_left]
          simp only at c2
          rw [hdat] at c2
          have hct : Chain p.1 (p.2.take k) := by
            have e := hcp
            rw [← List.take_append_drop k p.2] at e
            exact ((chain_app _ _ _).1 e).1
          have hle := chEnd_take hcp k
          have hgl : g.last (mkSg p.1 (segF n p.1) (p.2.take k)) = { g with segs := grSegs n (gs.dropLast ++ [(p.1, p.2.take k)]) } := by
            unfold Lg.last
            rw [hseg]
            congr 1
            conv => lhs; rw [esp]
            unfold grSegs
            rw [List.map_append, List.map_append]
            have hlen : (List.map (fun p => mkSg p.1 (segF n p.1) p.2) gs.dropLast ++ List.map (fun p => mkSg p.1 (segF n p.1) p.2) [p]).length - 1 = (gs.dropLast.map fun p => mkSg p.1 (segF n p.1) p.2).length := by simp
            rw [hlen, List.set_append_right _ _ (Nat.le_refl _), Nat.sub_self]
            rfl
          rw [hgl]
          have hch3 : GCh (gs.dropLast ++ [(p.1, p.2.take k)]) := (gch_snoc _ _).2 ⟨hg3.1, hct, hg3.2.2.1, hg3.2.2.2⟩
          have hff : ({ g with segs := grSegs n (gs.dropLast ++ [(p.1, p.2.take k)]) } : Lg).fin = chEnd p.1 (p.2.take k) := by
            unfold Lg.fin
            simp only
            rw [grSegs_last, List.getLast?_append]
            simp only [List.getLast?_singleton, Option.some_or, Option.map_some]
            exact mkSg_fin
          have hst : grStart (gs.dropLast ++ [(p.1, p.2.take k)]) = grStart gs := by
            conv => rhs; rw [esp]
            cases gs.dropLast with
            | nil => rfl
            | cons x xs => rfl
          refine ⟨gs.dropLast ++ [(p.1, p.2.take k)], ⟨⟨h.mem.name, rfl, hch3, by rw [hst]; exact h.mem.start⟩, fun x hx => ?_, fun x hx => ?_, fun h0 => by simp at h0, fun _ => rfl, .inl rfl, fun f hf v hv => ?_⟩, rfl, c3, ?_, ?_⟩
          · rw [List.dropLast_concat] at hx
            unfold Dk.look
            rw [c2, lookL_put, if_neg (sep x hx)]
            exact h.full x hx
          · rw [List.getLast?_append] at hx
            simp only [List.getLast?_singleton, Option.some_or, Option.some.injEq] at hx
            subst hx
            refine ⟨min s ((fsOf (p.2.take k)).length : Int), ?_, ?_, ?_⟩
            · unfold Dk.look
              rw [c2, lookL_put, if_pos rfl, List.append_nil]
            · rw [List.append_nil]; exact Int.min_le_right _ _
            · obtain ⟨k0, q1, q2, q3⟩ := l3
              simp only at q3
              rw [hfin, hgf] at q3
              simp only
              rw [hff]
              by_cases hkk : k0 ≤ k
              · refine ⟨k0, by simp; omega, ?_, ?_⟩
                · have := fsOf_take_le p.2 hkk
                  simp only
                  rw [List.take_take, Nat.min_eq_left hkk]
                  rw [Int.le_min]
                  exact ⟨q2, by omega⟩
                · simp only
                  rw [List.take_take, Nat.min_eq_left hkk]
                  have : min g.sync (chEnd p.1 (p.2.take k)) ≤ min g.sync (chEnd p.1 p.2) := by
                    rw [Int.min_def, Int.min_def]; split <;> split <;> omega
                  omega
              · refine ⟨k, by simp; omega, ?_, ?_⟩
                · have := fsOf_take_le p.2 (show k ≤ k0 by omega)
                  simp only
                  rw [List.take_take, Nat.min_self]
                  rw [Int.le_min]
                  exact ⟨by omega, by omega⟩
                · simp only
                  rw [List.take_take, Nat.min_self]
                  exact Int.min_le_right _ _
          · have hmap : (gs.dropLast ++ [(p.1, p.2.take k)]).map Prod.fst = gs.map Prod.fst := by
              conv => rhs; rw [esp]
              simp
            rw [hmap]
            unfold Dk.names at hf
            rw [c2] at hf
            rcases names_put _ _ _ _ hf with rfl | hf
            · rw [fileBase_segF n hsp.1 hsp.2] at hv
              cases hv
              exact List.mem_map_of_mem hpm
            · exact h.only f hf v hv
          · rw [allB_app]
            conv => rhs; rw [esp]
            rw [allB_app, List.length_append, List.length_append]
            simp [allB]
            omega
          · rw [grFin_snoc, hgf]
            exact hle
theorem Lst.trunc {n : List UInt8} {to_ : Int} {g : Lg} {d : Dk} {gs : Gr} (h : Lst n g d gs []) (ha : d.dead = false) (hnd : d.names.Nodup) (hs : Small gs) :
    ∃ gs', Lst n (g.trunc d to_).1 (g.trunc d to_).2.1 gs' [] ∧ (g.trunc d to_).2.1.dead = false ∧ (allB gs').length ≤ (allB gs).length ∧ grFin gs' ≤ grFin gs := by
  have hfin := mem_fin h.mem
  have hsy := h.syn
  have e : ({ g with sync := min g.sync g.fin } : Lg) = g := by
    rw [Int.min_eq_left (by omega)]
  obtain ⟨gs', k1, k2, k3, k4, k5⟩ := Lst.truncL (to_ := to_) g.segs.length (g := g) (by rw [e]; exact h) ha hnd hs
  unfold Lg.trunc
  split
  · exact ⟨gs, h, ha, Nat.le_refl _, Int.le_refl _⟩
  · rw [if_neg (by simp [k2])]
    exact ⟨gs', k1, k3, k4, k5⟩
end Go.Proofs.YtbpcichakchpkaaGreatDoor

/- Layer 8 in plain Lean: a crash, and the log opened behind it. -/
namespace Go.Proofs.YtbpcichakchpkaaGreatDoor
open Go Go.Pk
/-- no beginning of a frame is a frame -/
theorem fdec_cut {p : List UInt8} {q : Nat} (hp : p.length ≤ 4096) (hq : q < (frm p).length) : (fdec ((frm p).take q)).2.2 ≠ 0 := by
  have hl : ((frm p).take q).length = q := by rw [List.length_take]; omega
  have h8 : (((frm p).take q).take 8).length = min 8 q := by rw [List.length_take, hl]
  rw [frm_len] at hq
  by_cases h4 : q < 4
  · have e2 : takeX (((frm p).take q).take 8) 0 0 = (0, 0, 6) := by
      rcases takeX_cases (((frm p).take q).take 8) 0 with ⟨_, e⟩ | ⟨c, _⟩
      · exact e
      · rw [h8] at c; omega
    unfold fdec
    simp only [e2]
    rw [if_pos]
    · decide
    · unfold takeX; rw [if_pos (by decide)]; decide
  · by_cases h7 : q < 8
    · have e2 : ∃ n, takeX (((frm p).take q).take 8) 0 0 = (n, 4, 0) := by
        rcases takeX_cases (((frm p).take q).take 8) 0 with ⟨c, _⟩ | ⟨_, e⟩
        · rw [h8] at c; omega
        · exact ⟨_, e⟩
      obtain ⟨n, e2⟩ := e2
      have e3 : takeX (((frm p).take q).take 8) 4 0 = (0, 4, 6) := by
        rcases takeX_cases (((frm p).take q).take 8) 4 with ⟨_, e⟩ | ⟨c, _⟩
        · exact e
        · rw [h8] at c; omega
      unfold fdec
      simp only [e2, e3]
      rw [if_pos (by decide)]
      decide
    · have e8 : ((frm p).take q).take 8 = fixedB p.length ++ fixedB (crc p).toNat := by
        rw [List.take_take, Nat.min_eq_left (by omega), frm, List.take_append, List.take_of_length_le (by simp [fixedB])]
        simp [fixedB]
      have h1 : takeX (((frm p).take q).take 8) 0 0 = (p.length, 4, 0) := by
        have := takeX_at (t := ((frm p).take q).take 8) (r := fixedB (crc p).toNat) (p := 0) (n := p.length) (by rw [e8]; rfl) (by omega)
        simpa using this
      have h2 : takeX (((frm p).take q).take 8) 4 0 = ((crc p).toNat, 8, 0) := by
        have := takeX_at (t := ((frm p).take q).take 8) (r := []) (p := 4) (n := (crc p).toNat) (by rw [e8]; simp [fixedB]) (crc_lt p)
        simpa using this
      unfold fdec
      simp only [h1, h2]
      rw [if_neg (by decide), if_neg (by omega), if_pos (by rw [hl]; omega)]
      decide
/-- nothing, or a beginning of a frame -/
def Brk (part : List UInt8) : Prop := part = [] ∨ ∃ e : Bd, ∃ t, e.ok ∧ part = (frm e.enc).take t ∧ t < (frm e.enc).length
theorem brk_take {part : List UInt8} (h : Brk part) (t : Nat) : Brk (part.take t) := by
  rcases h with h | ⟨e, q, h1, h2, h3⟩
  · subst h; left; simp
  · right
    refine ⟨e, min t q, h1, ?_, by omega⟩
    rw [h2, List.take_take]
theorem brk_stop {part : List UInt8} (h : Brk part) (v : Int) (f : List UInt8) (bs : List Bd) : stepS (fsOf bs ++ part) (mkSg v f bs) = none := by
  have e1 : (mkSg v f bs).bytes.toNat = (fsOf bs).length := by show ((fsOf bs).length : Int).toNat = _; omega
  unfold stepS
  rw [e1, List.drop_left, if_neg]
  rintro ⟨h1, h2, _⟩
  rcases h with h | ⟨e, q, k1, k2, k3⟩
  · subst h
    rw [List.append_nil] at h1
    exact absurd h1 (by show ¬ ((fsOf bs).length : Int) < _; omega)
  · rw [k2] at h2
    have := enc_small k1
    exact fdec_cut (by omega) k3 h2
/-- a beginning of frames is frames, and a beginning of one -/
theorem cut_frames : ∀ (bs : List Bd) (part : List UInt8) (t : Nat), (∀ x ∈ bs, x.ok) → Brk part → ∃ m rest, m ≤ bs.length ∧ (fsOf bs ++ part).take t = fsOf (bs.take m) ++ rest ∧ Brk rest ∧ ∀ k, k ≤ bs.length → (fsOf (bs.take k)).length ≤ t → k ≤ m
  | [], part, t, _, hp => ⟨0, part.take t, Nat.le_refl _, by simp [fsOf], brk_take hp t, fun k hk _ => by simpa using hk⟩
  | x :: bs, part, t, hok, hp => by
    have e : fsOf (x :: bs) = frm x.enc ++ fsOf bs := by simp [fsOf]
    by_cases ht : t < (frm x.enc).length
    · refine ⟨0, (frm x.enc).take t, Nat.zero_le _, ?_, .inr ⟨x, t, hok x (by simp), rfl, ht⟩, fun k hk h => ?_⟩
      · rw [e, List.append_assoc, List.take_append_of_le_length (by omega)]; simp [fsOf]
      · cases k with
        | zero => exact Nat.le_refl _
        | succ k =>
          have e2 : fsOf ((x :: bs).take (k + 1)) = frm x.enc ++ fsOf (bs.take k) := by simp [fsOf]
          rw [e2, List.length_append] at h
          omega
    · obtain ⟨m, rest, h1, h2, h3, h4⟩ := cut_frames bs part (t - (frm x.enc).length) (fun y hy => hok y (by simp [hy])) hp
      refine ⟨m + 1, rest, by simp; omega, ?_, h3, fun k hk h => ?_⟩
      · have e2 : fsOf ((x :: bs).take (m + 1)) = frm x.enc ++ fsOf (bs.take m) := by simp [fsOf]
        rw [e, e2, List.append_assoc, List.append_assoc, ← h2, List.take_append, List.take_of_length_le (by omega)]
      · cases k with
        | zero => exact Nat.zero_le _
        | succ k =>
          have e2 : fsOf ((x :: bs).take (k + 1)) = frm x.enc ++ fsOf (bs.take k) := by simp [fsOf]
          rw [e2, List.length_append] at h
          have := h4 k (by simpa using hk) (by omega)
          omega
theorem lookL_map {f : Fl → Fl} (n : List UInt8) : ∀ (l : List (List UInt8 × Fl)), Dk.lookL (l.map fun p => (p.1, f p.2)) n = (Dk.lookL l n).map f
  | [] => rfl
  | p :: l => by
    simp only [List.map_cons, Dk.lookL]
    split
    · rfl
    · exact lookL_map n l
theorem crash_look {d : Dk} {keep : Int} {n : List UInt8} : (d.crash keep).look n = (d.look n).map (Dk.crashF keep) := lookL_map n d.files
theorem crash_names {d : Dk} {keep : Int} : (d.crash keep).names = d.names := by
  unfold Dk.crash Dk.names
  simp
theorem crash_full {keep : Int} {b : List UInt8} : Dk.crashF keep ⟨b, b.length⟩ = ⟨b, b.length⟩ := by
  unfold Dk.crashF
  simp only
  have e : ((b.length : Int) - b.length + 1) = 1 := by omega
  rw [e, Int.tmod_one, Int.add_zero]
  simp
theorem crash_some {keep s : Int} {b : List UInt8} (h0 : 0 ≤ s) (h1 : s ≤ b.length) : ∃ t : Nat, s ≤ t ∧ t ≤ b.length ∧ Dk.crashF keep ⟨b, s⟩ = ⟨b.take t, t⟩ := by
  unfold Dk.crashF
  simp only
  have hw : 0 ≤ IntKind.u64.wrap keep := by
    simp [IntKind.wrap, IntKind.signed, IntKind.bits]
    exact Int.emod_nonneg _ (by decide)
  have hm0 : 0 ≤ (IntKind.u64.wrap keep).tmod ((b.length : Int) - s + 1) := Int.tmod_nonneg _ hw
  have hm1 : (IntKind.u64.wrap keep).tmod ((b.length : Int) - s + 1) < (b.length : Int) - s + 1 := Int.tmod_lt_of_pos _ (by omega)
  generalize (IntKind.u64.wrap keep).tmod ((b.length : Int) - s + 1) = r at *
  refine ⟨(s + r).toNat, by omega, by omega, ?_⟩
  congr 1
  omega
theorem syncOf_look {d : Dk} {n : List UInt8} {f : Fl} (ha : d.dead = false) (h : d.look n = some f) : d.syncOf n = f.sync := by
  unfold Dk.syncOf
  rw [find_live ha h]
theorem lastB_all {sy : Int} : ∀ (bs : List Bd) (n tq : Int), n + (fsOf bs).length ≤ sy → lastB sy tq bs (endsF n bs) = (chEnd tq bs, false)
  | [], n, tq, _ => rfl
  | x :: bs, n, tq, h => by
    have e : fsOf (x :: bs) = frm x.enc ++ fsOf bs := by simp [fsOf]
    rw [e, List.length_append] at h
    simp only [endsF, lastB]
    rw [if_neg (by omega), lastB_all bs _ _ (by omega)]
    rfl
theorem lastG_all {n : List UInt8} {d : Dk} : ∀ (gs : Gr) (tq : Int), (∀ p ∈ gs, d.syncOf (segF n p.1) = (fsOf p.2).length) → GCh gs → (gs ≠ [] → tq = grStart gs) → lastG d tq (grSegs n gs) = if gs = [] then tq else grFin gs
  | [], tq, _, _, _ => rfl
  | p :: gs, tq, h, hg, ht => by
    have htq := ht (by simp)
    have hp : tq = p.1 := htq
    subst hp
    have e1 : grSegs n (p :: gs) = mkSg p.1 (segF n p.1) p.2 :: grSegs n gs := rfl
    have hb : lastB (d.syncOf (mkSg p.1 (segF n p.1) p.2).name) p.1 (mkSg p.1 (segF n p.1) p.2).bt (mkSg p.1 (segF n p.1) p.2).ends = (chEnd p.1 p.2, false) := by
      show lastB (d.syncOf (segF n p.1)) p.1 p.2 (endsF 0 p.2) = _
      rw [h p (by simp)]
      exact lastB_all p.2 0 p.1 (by omega)
    rw [e1, lastG, hb]
    simp only [Bool.false_eq_true, if_false]
    rw [if_neg (by simp)]
    cases gs with
    | nil => rfl
    | cons q gs =>
      rw [lastG_all (q :: gs) _ (fun x hx => h x (by simp [List.mem_cons.1 hx])) hg.2.2.2 (fun _ => hg.2.2.1.symm), if_neg (by simp)]
      exact (grFin_tail).symm
/-- a crash, and the log opened -/
theorem Lst.crash {n : List UInt8} {g : Lg} {d : Dk} {gs : Gr} {part : List UInt8} (h : Lst n g d gs part) (hok : DkOk d) (hs : Small gs) (keep : Int) :
    ∃ gs', Lst n (opLg n (d.crash keep)) (opDk n (d.crash keep)) gs' [] ∧ (opDk n (d.crash keep)).dead = false ∧ (∃ t, allB gs = allB gs' ++ t) ∧ grStart gs' = grStart gs ∧ grFin gs' ≤ grFin gs ∧ g.sync ≤ grFin gs' ∧ (opLg n (d.crash keep)).sync = grFin gs' ∧ NmOk n (d.crash keep) := by
  have hnm : NmOk n (d.crash keep) := fun f hf v hv => by
    rw [crash_names] at hf
    obtain ⟨p, hp, rfl⟩ := List.mem_map.1 (h.only f hf v hv)
    have := small_mem h.mem.chain hs hp
    omega
  have hnd : (d.crash keep).names.Nodup := by rw [crash_names]; exact hok.nodup
  have hch := h.mem.chain
  have hfull : ∀ p ∈ gs.dropLast, (d.crash keep).look (segF n p.1) = some ⟨fsOf p.2, (fsOf p.2).length⟩ := fun p hp => by
    rw [crash_look, h.full p hp, Option.map_some, crash_full]
  cases hl : gs.getLast? with
  | none =>
    have e := List.getLast?_eq_none_iff.1 hl
    subst e
    have hF : Fls n (d.crash keep) [] [] := ⟨rfl, hnd, trivial, hs, (fun p hp => by cases hp), (fun p hp => by cases hp), (fun p hp => by cases hp), by rw [crash_names]; exact h.only⟩
    obtain ⟨q1, q2, _⟩ := op_fls hF
    have e1 : opLg n (d.crash keep) = ⟨n, [], 0⟩ := by
      unfold opLg
      rw [q1]
      rfl
    have e2 : opDk n (d.crash keep) = d.crash keep := q2 rfl
    rw [e1, e2]
    refine ⟨[], ⟨(lay_new n).mem, (fun p hp => by cases hp), (fun p hp => by cases hp), fun _ => Int.le_refl _, fun _ => rfl, .inl rfl, by rw [crash_names]; exact h.only⟩, rfl, ⟨[], rfl⟩, rfl, Int.le_refl _, h.none rfl, rfl, hnm⟩
  | some p =>
    have esp := getLast_split hl
    have hpm := List.mem_of_getLast? hl
    have hsp := small_mem hch hs hpm
    have hcp := (gch_mem hch hpm).1
    have hgf : grFin gs = chEnd p.1 p.2 := by unfold grFin; rw [hl]
    have hch2 := hch
    rw [esp] at hch2
    have hg3 := (gch_snoc _ _).1 hch2
    obtain ⟨s, l1, l2, k, l3, l4, l5⟩ := h.last p hl
    obtain ⟨t, t1, t2, t3⟩ := crash_some (keep := keep) (by omega) l2
    obtain ⟨m, rest, m1, m2, m3, m4⟩ := cut_frames p.2 part t (chain_ok _ _ hcp) h.brk
    have hkm := m4 k l3 (by omega)
    have hlk : (d.crash keep).look (segF n p.1) = some ⟨fsOf (p.2.take m) ++ rest, t⟩ := by
      rw [crash_look, l1, Option.map_some, t3, m2]
    have htl : t = (fsOf (p.2.take m)).length + rest.length := by
      have := congrArg List.length m2
      rw [List.length_take, Nat.min_eq_left t2, List.length_append] at this
      exact this
    have hct : Chain p.1 (p.2.take m) := by
      have e := hcp
      rw [← List.take_append_drop m p.2] at e
      exact ((chain_app _ _ _).1 e).1
    have hle := chEnd_take hcp m
    have sep : ∀ q ∈ gs.dropLast, segF n p.1 ≠ segF n q.1 := fun q hq heq => by
      have hsq := small_mem hch hs (List.dropLast_subset _ hq)
      have hv := segF_inj n hsp.1 hsp.2 hsq.1 hsq.2 heq
      have hpw := gch_bases hch
      rw [esp, List.map_append, List.pairwise_append] at hpw
      have := hpw.2.2 q.1 (List.mem_map_of_mem hq) p.1 (by simp)
      omega
    let gs' : Gr := gs.dropLast ++ [(p.1, p.2.take m)]
    have hch3 : GCh gs' := (gch_snoc _ _).2 ⟨hg3.1, hct, hg3.2.2.1, hg3.2.2.2⟩
    have hst : grStart gs' = grStart gs := by
      conv => rhs; rw [esp]
      show grStart (gs.dropLast ++ [(p.1, p.2.take m)]) = _
      cases gs.dropLast with
      | nil => rfl
      | cons x xs => rfl
    have hfn : grFin gs' = chEnd p.1 (p.2.take m) := grFin_snoc _ _
    have hmap : gs'.map Prod.fst = gs.map Prod.fst := by
      show (gs.dropLast ++ [(p.1, p.2.take m)]).map Prod.fst = _
      conv => rhs; rw [esp]
      simp
    have hgl : gs'.getLast? = some (p.1, p.2.take m) := by
      show (gs.dropLast ++ [(p.1, p.2.take m)]).getLast? = _
      rw [List.getLast?_append]; rfl
    have hgd : gs'.dropLast = gs.dropLast := List.dropLast_concat
    have hs2 : Small gs' := ⟨by rw [hst]; exact hs.1, by rw [hfn]; have := hs.2; omega⟩
    have hF : Fls n (d.crash keep) gs' rest := by
      refine ⟨rfl, hnd, hch3, hs2, fun q hq => ?_, fun q hq => ?_, fun q hq => ?_, ?_⟩
      · rw [hgd] at hq; exact ⟨_, hfull q hq⟩
      · rw [hgl] at hq; cases hq; exact ⟨_, hlk⟩
      · rw [hgl] at hq; cases hq; exact brk_stop m3 _ _ _
      · rw [crash_names, hmap]; exact h.only
    obtain ⟨q1, q2, q3⟩ := op_fls hF
    -- the disk behind the opening
    obtain ⟨d', hd', hdead, hdl, hdo, hdn⟩ : ∃ d', opDk n (d.crash keep) = d' ∧ d'.dead = false ∧ d'.look (segF n p.1) = some ⟨fsOf (p.2.take m), ((fsOf (p.2.take m)).length : Nat)⟩ ∧ (∀ q ∈ gs.dropLast, d'.look (segF n q.1) = some ⟨fsOf q.2, (fsOf q.2).length⟩) ∧ ∀ f ∈ d'.names, f ∈ d.names := by
      by_cases hr : rest = []
      · refine ⟨d.crash keep, q2 hr, rfl, ?_, hfull, fun f hf => by rw [crash_names] at hf; exact hf⟩
        rw [hlk, htl, hr]; simp
      · have e := q3 hr _ hgl
        obtain ⟨c1, c2, c3⟩ := cut_alive (d := d.crash keep) (k := (fsOf (p.2.take m)).length) rfl hlk (by simp)
        refine ⟨_, e, c3, ?_, fun q hq => ?_, fun f hf => ?_⟩
        · unfold Dk.look
          rw [c2, lookL_put, if_pos rfl]
          simp only
          rw [List.take_left, Int.min_eq_right (by omega)]
        · unfold Dk.look
          rw [c2, lookL_put, if_neg (sep q hq)]
          exact hfull q hq
        · unfold Dk.names at hf
          rw [c2] at hf
          rcases names_put _ _ _ _ hf with rfl | hf
          · exact look_names l1
          · have hf : f ∈ (d.crash keep).names := hf
            rw [crash_names] at hf; exact hf
    have hdk : (opAll n (d.crash keep)).d = d' := hd'
    have hsync : (opLg n (d.crash keep)).sync = grFin gs' := by
      show (opAll n (d.crash keep)).g.lasting (opAll n (d.crash keep)).d = _
      rw [q1, hdk]
      unfold Lg.lasting
      have hstart : (⟨n, grSegs n gs', 0⟩ : Lg).start = grStart gs' := by
        unfold Lg.start grStart
        show (match grSegs n (gs.dropLast ++ [(p.1, p.2.take m)]) with | s :: _ => s.base | [] => 0) = match gs.dropLast ++ [(p.1, p.2.take m)] with | p :: _ => p.1 | [] => 0
        cases gs.dropLast with
        | nil => rfl
        | cons x xs => rfl
      rw [hstart, lastG_all gs' _ (fun q hq => ?_) hch3 (fun _ => rfl), if_neg (by intro h0; rw [h0] at hgl; cases hgl)]
      rcases List.mem_append.1 hq with hq | hq
      · exact syncOf_look hdead (hdo q hq)
      · rw [List.mem_singleton] at hq
        subst hq
        exact syncOf_look hdead hdl
    rw [hd']
    have hmem : Mem n (opLg n (d.crash keep)) gs' := by
      refine ⟨?_, ?_, hch3, by rw [hst]; exact h.mem.start⟩
      · show (opAll n (d.crash keep)).g.name = n; rw [q1]
      · show (opAll n (d.crash keep)).g.segs = _; rw [q1]
    refine ⟨gs', ⟨hmem, fun q hq => ?_, fun q hq => ?_, (fun h0 => by rw [h0] at hgl; cases hgl), fun _ => rfl, .inl rfl, fun f hf v hv => by rw [hmap]; exact h.only f (hdn f hf) v hv⟩, hdead, ?_, hst, by rw [hfn, hgf]; exact hle, ?_, hsync, hnm⟩
    · rw [hgd] at hq; exact hdo q hq
    · rw [hgl] at hq
      cases hq
      refine ⟨((fsOf (p.2.take m)).length : Nat), by rw [List.append_nil]; exact hdl, by rw [List.append_nil]; exact Int.le_refl _, SyOk.all (by rw [hsync, hfn]; exact Int.le_refl _)⟩
    · refine ⟨p.2.drop m, ?_⟩
      conv => lhs; rw [esp]
      rw [allB_app]
      show _ = allB (gs.dropLast ++ [(p.1, p.2.take m)]) ++ _
      rw [allB_app, List.append_assoc]
      congr 1
      simp [allB]
    · rw [hfn]
      have e : p.2.take k = (p.2.take m).take k := by rw [List.take_take, Nat.min_eq_left hkm]
      rw [e] at l5
      have := chEnd_take hct k
      omega
end Go.Proofs.YtbpcichakchpkaaGreatDoor
