/- Layer 19: the law ClientLearns. -/
import Derived.Test.YtajhdjjmhfbhgaaKVo
import Derived.Test.YtajhdjjmhfbhgaaKJ
namespace Go.Proofs.Ytajhdjjmhfbhgaa
open Go Go.Pk
theorem run_strHi {P : Program} {ts : TypeId} (hs : P.underlying ts = some .string) {s : ByteArray} {hi : Int} (h0 : 0 ≤ hi) (h1 : hi ≤ s.size) (w : World) {j : IntKind} :
    (Instr.sliceAt ts (.string s) none (some (.int j hi)) none).run P w = .ok (.string (s.extract 0 hi.toNat)) w := by
  have e2 : (0 ≤ hi ∧ hi ≤ (s.size : Int)) := ⟨h0, h1⟩
  simp [Instr.sliceAt, Instr.slice, run_underlying hs, Sem.run_bind, Instr.sliceBounds, Instr.sliceBound, asIntOf, Sem.run, e2]
def cutV (v : ByteArray) : ByteArray := v.extract 0 (if 64 < (v.size : Int) then 64 else (v.size : Int)).toNat
def opV (v : ByteArray) : Oc := ⟨1, 0, 0, 0, cutV v⟩
def lastO (t : Bool) : Oc := ⟨if t then 2 else 3, 0, 0, 0, ⟨#[]⟩⟩
theorem cutV_size (v : ByteArray) : ((cutV v).size : Int) ≤ 64 := by
  unfold cutV
  rw [ByteArray.size_extract]
  split <;> omega
theorem prog_of {vals : List ByteArray} {t : Bool} (h0 : vals.length ≠ 0) (h20 : vals.length ≤ 20) : Prog (vals.map opV ++ [lastO t]) vals.length t := by
  refine ⟨by simp, by omega, h20, fun i hi => ⟨cutV vals[i], ?_⟩, ⟨⟨#[]⟩, ?_⟩⟩
  · rw [List.getElem?_append_left (by simpa using hi), List.getElem?_map, List.getElem?_eq_getElem hi]; rfl
  · rw [List.getElem?_append_right (by simp)]; simp [lastO]
theorem learn_ok {vals : List ByteArray} {t : Bool} {cs x : Sl} (h20 : vals.length ≤ 20) : cfBad (oneC cs x (vals.map opV ++ [lastO t])) = false := by
  have h1 : (vals.map opV ++ [lastO t]).any (opBad 1) = false := by
    rw [List.any_eq_false]
    intro o ho
    rcases List.mem_append.1 ho with ho | ho
    · obtain ⟨v, _, rfl⟩ := List.mem_map.1 ho
      have := cutV_size v
      have : opBad 1 (opV v) = false := by
        unfold opBad opV
        simp
        omega
      rw [this]; decide
    · rw [List.mem_singleton.1 ho]
      cases t <;> decide
  have h2 : prBad 1 ⟨0, x, vals.map opV ++ [lastO t]⟩ = false := by
    unfold prBad
    rw [h1]
    simp; omega
  unfold cfBad
  show (topBad (oneC cs x _) || ([⟨0, x, vals.map opV ++ [lastO t]⟩] : List Pr).any (prBad 1)) = false
  rw [List.any_cons, List.any_nil, h2]
  rfl
/-- the last answer -/
def lc (corr off ep : Int) (told : Bool) : List Value := (({ zAq with kind := 15, corr := corr, offset := off, inc := 1, pid := 7, epoch := ep, commit := told } : Aq).cells nsl).take 58 ++ [.int .i64 7]
def lm (corr off ep : Int) (told : Bool) : Rp := ⟨15, corr, 0, off, 1, 7, ep, told, 0, ⟨none, 0, 0⟩, [], ⟨none, 0, 0⟩, [], ⟨none, 0, 0⟩, [], 7⟩
@[simp] theorem lc_len (corr off ep : Int) (told : Bool) : (lc corr off ep told).length = 59 := rfl
theorem lc_c (corr off ep : Int) (told : Bool) : RpC (lc corr off ep told) (lm corr off ep told) := ⟨rfl, rfl, rfl, rfl, rfl, rfl, rfl, rfl, rfl, rfl, rfl, rfl, rfl, rfl⟩
theorem lm_rd {W : World} {l : List Res} (corr off ep : Int) (told : Bool) : RpRd W l (lm corr off ep told) := ⟨Rd.nil rfl, Rd.nil rfl, (fun d hd => by cases hd), Rd.nil rfl⟩
theorem lc_one (corr off ep : Int) (told : Bool) : ∀ u ∈ lc corr off ep told, u.oneCell' = true := by
  intro u hu
  have h : (lc corr off ep told).all (fun u => u.oneCell') = true := rfl
  exact List.all_eq_true.1 h u hu
section
variable {W w : World} {l : List Res} {K : Value → World → Prop} {x0 : Sl} {vals : List ByteArray} {t told known : Bool} {ep : Int}
theorem tick_new {cs x : Sl} {ol : List Oc} {n : Nat} (hp : Prog ol n t) (p : Pr) (hp2 : p = ⟨0, x, ol⟩) : Q0 ol (newC (oneC cs x ol) 0 p).tick ∧ ∃ to, (newC (oneC cs x ol) 0 p).tick.out = some to := by
  subst hp2
  obtain ⟨v, hv⟩ := hp.send 0 hp.pos
  have e : (newC (oneC cs x ol) 0 ⟨0, x, ol⟩).tick = (newC (oneC cs x ol) 0 ⟨0, x, ol⟩).ask qInit := by
    unfold Cl.tick
    rw [if_pos (show (newC (oneC cs x ol) 0 ⟨0, x, ol⟩).waits = false from rfl), dec_send (c := newC (oneC cs x ol) 0 ⟨0, x, ol⟩) (o := ⟨1, 0, 0, 0, v⟩) rfl (fun h => absurd h (by show ¬ (-1 : Int) ≥ 0; decide)) hv rfl]
    exact send_init rfl
  rw [e]
  exact ⟨⟨⟨rfl, rfl, rfl, rfl⟩, rfl, rfl, rfl, rfl, rfl, rfl, rfl, rfl⟩, _, rfl⟩
set_option maxRecDepth 20000 in
theorem law_learns (h : Sat W w l) (hx : Rd W l x0 1 (vals.map vT)) (he : 0 ≤ ep ∧ ep < 256) (hK : ∀ w', Sat W w' l → K (.bool true) w') :
    CallP P F_law19_ClientLearns [x0.v, .bool t, .bool told, .bool known, .int .u8 ep] w K := by
  apply c_law19_ClientLearns
  unfold S_law19_ClientLearns
  have hl0 : x0.len = vals.length := by
    have := (hx w h).1
    simp only [List.length_map, Nat.mul_one] at this
    exact this.symm
  refine ⟨fun _ w' => vals.length ≠ 0 ∧ vals.length ≤ 20 ∧ Sat W w' l, ?_, ?_⟩
  · rintro _ w1 ⟨hn0, hn20, h1⟩
    refine ⟨fun z w' => ∃ i : Nat, z.2.1 = i ∧ i ≤ vals.length ∧ Sat W w' (SlR T_api_Op 5 z.1 (elO.flat ((vals.take i).map opV)) :: l), fun z _ => vals.length - z.2.1.toNat, ⟨0, rfl, Nat.zero_le _, Sat.nilSlr h1 T_api_Op 5⟩, ?_⟩
    rintro ⟨s, i', u⟩ w2 ⟨i, hi, hil, h2⟩
    simp only at hi h2 ⊢
    subst hi
    have hsl : s.len = ((vals.take i).map opV).length := RdC.elen (E := elO) h2.rdc (by decide)
    rw [List.length_map, List.length_take, Nat.min_eq_left hil] at hsl
    refine ifB_dec (fun hlt => ?_) fun hge => ?_
    · have hi1 : i < vals.length := by omega
      refine ixld et_strs (hx w2 h2.tail) (by omega) (k := .str) (x := vals[i]) (by simp [hi1]; rfl) ?_
      refine ⟨cutV vals[i], run_strHi (by kernel_rfl) (by split <;> omega) (by split <;> omega) w2, ?_⟩
      refine bsB h2 (cs := (opV vals[i]).cells) (e := T_api_Op) (fun w => by kernel_rfl) fun g w3 h3 => ?_
      refine pushB et_ops (by decide) h3.swap rfl (Oc.ones _) (by omega) (by omega) fun s' w4 h4 => ?_
      rw [w_i64 (by omega) (by omega)]
      refine ⟨⟨i + 1, rfl, by omega, ?_⟩, by omega⟩
      have e : elO.flat ((vals.take i).map opV) ++ (opV vals[i]).cells = elO.flat ((vals.take (i + 1)).map opV) := by
        rw [List.take_add_one, List.getElem?_eq_getElem hi1, List.map_append, flat_app]
        show _ = _ ++ elO.flat [opV vals[i]]
        rw [flat_one]; rfl
      rw [e] at h4
      exact h4.cut 1
    · have e : i = vals.length := by omega
      subst e
      rw [List.take_of_length_le (Nat.le_refl _)] at h2
      refine ⟨fun z w' => z.1 = (lastO t).kind ∧ Sat W w' (SlR T_api_Op 5 s (elO.flat (vals.map opV)) :: l), ?_, ?_⟩
      · rintro ⟨z, u⟩ w3 ⟨hz, h3⟩
        simp only at hz
        subst hz
        refine bsB h3 (cs := (lastO t).cells) (e := T_api_Op) (fun w => by kernel_rfl) fun g w4 h4 => ?_
        refine pushB et_ops (by decide) h4.swap rfl (Oc.ones _) (by omega) (by omega) fun os w5 h5 => ?_
        have e : elO.flat (vals.map opV) ++ (lastO t).cells = elO.flat (vals.map opV ++ [lastO t]) := by rw [flat_app, flat_one]; rfl
        rw [e] at h5
        have hp := prog_of (t := t) hn0 hn20
        have hgood : ∀ cs, cfBad (oneC cs os (vals.map opV ++ [lastO t])) = false := fun cs => learn_ok hn20
        have h5 : Sat W w5 (SlR T_api_Op 5 os (elO.flat (vals.map opV ++ [lastO t])) :: l) := h5.cut 1
        generalize vals.map opV ++ [lastO t] = ol at h5 hp hgood
        have hol : os.len = vals.length + 1 := by
          have := RdC.elen (E := elO) h5.rdc (by decide)
          rw [this, hp.len]
        refine one_ok h5 fun cs w6 h6 => tyI (k := .val) ?_
        refine begin_ok (cf := oneC cs os ol) h6 (oneC_rd Rd.own) (by decide) (fun w7 h7 hbad => ?_) fun p nn b g2 w7 hnb hnn hpp h7 => tyI (k := .ptr) (x := some ⟨g2, 0, none⟩) ?_
        · exfalso
          rcases hbad with hbad | hbad
          · rw [hgood cs] at hbad; cases hbad
          · cases hbad
        have hnn : nn = 0 := by rw [hnn]; rfl
        subst hnn
        have hpe : p = ⟨0, os, ol⟩ := by
          have : some (⟨0, os, ol⟩ : Pr) = some p := hpp
          exact (Option.some.inj this).symm
        have hf := fxOf_ok hnb hpp
        have hq0 := tick_new (t := t) (cs := cs) (x := os) hp p hpe
        have qn := newC_inv hf
        have hon : (newC (oneC cs os ol) 0 p).out = none := rfl
        generalize newC (oneC cs os ol) 0 p = c0 at h7 hq0 qn hon
        simp only [Option.isNone_some, ifB_false]
        have hem : 0 ≤ ep.tmod 100 ∧ ep.tmod 100 < 100 := ⟨Int.tmod_nonneg _ he.1, Int.tmod_lt_of_pos _ (by decide)⟩
        have hE : IntKind.i64.wrap (2 * IntKind.i64.wrap (ep.tmod 100)) = 2 * ep.tmod 100 := by rw [w_i64 (n := ep.tmod 100) (by omega) (by omega), w_i64 (by omega) (by omega)]
        rw [hE]
        generalize hEE : 2 * ep.tmod 100 = E at *
        have hE0 : 0 ≤ E ∧ E ≤ 198 := by omega
        refine boxB h7 fun gs w8 h8 => ?_
        have h8 : Sat W w8 (Blk gs (Sv.cells ⟨os, E, t, false, 0, 0, false⟩) T_penstocklaw19_server :: Blk g2 (hcells (oneC cs os ol) 0 b hs0) T_penstocklaw19_hold :: ClM b c0 :: SlR T_api_Program 2 cs [.int .i64 0, os.v] :: SlR T_api_Op 5 os (elO.flat ol) :: l) := h8
        generalize oneC cs os ol = cf at *
        refine writes_ok (sv := ⟨os, E, t, false, 0, 0, false⟩) (h8.sel 3 [2, 0, 1]) hp hE0.1 hol hf qn hon hq0 rfl fun c1 sv w9 q3 ho1 hep q9 h9 => tyI (k := .bool) ?_
        simp only [Bool.not_true, ifB_false]
        have h9g : Sat W w9 (Blk g2 (hcells cf 0 b hs0) T_penstocklaw19_hold :: ClM b c1 :: Blk gs sv.cells T_penstocklaw19_server :: l) := h9.sel 5 [2, 0, 1]
        refine ldX h9g 5 (k := .ptr) (x := some ⟨b, 0, none⟩) ?_
        have hpp1 := q9.pp hf
        refine anew_ok h9g.swap (by omega) hpp1.2 fun w10 h10 => tupU rfl ?_
        obtain ⟨q4, hw4, ho4⟩ := q_anew q3
        have q10 : Inv (fxOf cf 0 p) [] 1000 c1.anew := q9.anew hf
        generalize c1.anew = c2 at h10 q4 hw4 ho4 q10
        have h10g := h10.swap
        refine ldX h10g 5 (k := .ptr) (x := some ⟨b, 0, none⟩) ?_
        have et := q_tick hE0.1 q4 hw4
        refine tstep h10 hf q10 ho4 (by omega) fun s52 vs w11 _ q11 h11 => tyI (k := .sl) ?_
        rw [et] at q11 h11
        -- what it asks now
        have hinc : c2.inc = 1 := q4.1.2.2.2
        have q5 : Q4 ol E vals.length { c2.ask qInit with out := none } := q4
        have f1 : ({ c2.ask qInit with out := none } : Cl).asked.kind = 7 := rfl
        have f2 : ({ c2.ask qInit with out := none } : Cl).waits = true := rfl
        have f3 : ({ c2.ask qInit with out := none } : Cl).asked.inc = 1 := hinc
        have f4 : ({ c2.ask qInit with out := none } : Cl).out = none := rfl
        obtain ⟨to, hto⟩ : ∃ to, (c2.ask qInit).out = some to := ⟨_, rfl⟩
        have e11 : outL (c2.ask qInit) vs = ({ ({ c2.ask qInit with out := none } : Cl).asked with to := to } : Aq).cells vs := by unfold outL; rw [hto]
        rw [e11] at h11
        have q12 := q11.taken
        generalize ({ c2.ask qInit with out := none } : Cl) = d at h11 q5 f1 f2 f3 f4 q12
        have h11 : Sat W w11 (SlR T_api_Msg 59 s52 (({ d.asked with to := to } : Aq).cells vs) :: ClM b d :: Blk g2 (hcells cf 0 b hs0) T_penstocklaw19_hold :: Blk gs sv.cells T_penstocklaw19_server :: l) := h11
        have hl52 : s52.len = 1 := by
          have e : 59 = s52.len * 59 := h11.slLen.1
          omega
        refine ⟨fun _ w' => w' = w11, ?_, ?_⟩
        · rintro _ w12 rfl
          have h12 := h11.drew
          let S : World → Prop := fun w => ∃ L, Sat W w (SlR T_api_Msg 59 s52 (({ d.asked with to := to } : Aq).cells vs) :: Blk gs sv.cells T_penstocklaw19_server :: L)
          refine ⟨S, ⟨_, h12.sel 4 [0, 3, 1, 2]⟩, ?_⟩
          refine hixEl (S := S) (E := elM) (xs := [({ d.asked with to := to }, vs)]) et_msgs rfl (fun w ⟨L, h⟩ => by rw [flat_one]; exact h.rdc) ⟨_, h12.sel 4 [0, 3, 1, 2]⟩ (by decide) (x := ({ d.asked with to := to }, vs)) rfl (by show 0 < s52.len; omega) fun A hA => ?_
          refine hld (x := d.asked.corr) (fun w hw => hA w hw 3 _ rfl) ?_
          refine hldX (S := S) (fun w ⟨L, h⟩ => ⟨_, h.swap⟩) 2 (x := sv.ep) ?_
          refine hldX (S := S) (fun w ⟨L, h⟩ => ⟨_, h.swap⟩) 2 (x := sv.ep) ?_
          have hw2 : IntKind.i64.wrap (sv.ep + 2) = E + 2 := by rw [hep]; exact w_i64 (by omega) (by omega)
          have hw3 : IntKind.i64.wrap (sv.ep - 2) = E - 2 := by rw [hep]; exact w_i64 (by omega) (by omega)
          refine newM h12 fun y w13 h13 => ⟨⟨_, h13.sel 5 [1, 4, 0, 2, 3]⟩, ?_⟩
          refine stAggB (cs' := lc d.asked.corr sv.ep (IntKind.i64.wrap (sv.ep + 2)) told) h13 rfl (lc_one _ _ _ _) (by kernel_rfl) fun w14 h14 => ⟨⟨_, h14.sel 5 [1, 4, 0, 2, 3]⟩, ?_⟩
          rw [hw2] at h14
          refine ⟨fun _ w' => ∃ off, (known = true → off = E) ∧ (known = false → off ≠ E) ∧ Sat W w' (Blk y (lc d.asked.corr off (E + 2) told) T_api_Msg :: SlR T_api_Msg 59 s52 (({ d.asked with to := to } : Aq).cells vs) :: ClM b d :: Blk g2 (hcells cf 0 b hs0) T_penstocklaw19_hold :: Blk gs sv.cells T_penstocklaw19_server :: l), ?_, ?_⟩
          · rintro _ w15 ⟨off, k1, k2, h15⟩
            let S2 : World → Prop := fun w => ∃ L, Sat W w (Blk y (lc d.asked.corr off (E + 2) told) T_api_Msg :: Blk g2 (hcells cf 0 b hs0) T_penstocklaw19_hold :: L)
            have h16 : Sat W w15.drew (ClM b d :: Blk y (lc d.asked.corr off (E + 2) told) T_api_Msg :: Blk g2 (hcells cf 0 b hs0) T_penstocklaw19_hold :: Blk gs sv.cells T_penstocklaw19_server :: l) := h15.drew.sel 5 [2, 0, 3, 4]
            refine ⟨S2, ⟨_, h16.sel 3 [1, 2, 0]⟩, ?_⟩
            refine hldX (S := S2) (fun w ⟨L, h⟩ => ⟨_, h.swap⟩) 5 (k := .ptr) (x := some ⟨b, 0, none⟩) ?_
            refine hldAggB (S := S2) (cs := lc d.asked.corr off (E + 2) told) (fun w ⟨L, h⟩ => ⟨_, h⟩) (by kernel_rfl) ?_
            refine hstep (N := 1001) h16 (lc_c _ _ _ _) (lm_rd _ _ _ _) ⟨rfl, rfl⟩ hf q12 f4 (by omega) fun s79 vs3 w16 _ q16 h17 => tyI (k := .sl) ?_
            have good := q_good (m := lm d.asked.corr off (E + 2) told) hp hE0.1 q5 f1 f2 rfl rfl rfl rfl
            have fail := q_fail (m := lm d.asked.corr off (E + 2) told) hp hE0.1 q5 f1 f2 rfl rfl rfl rfl
            rw [f4] at good
            generalize d.handle (lm d.asked.corr off (E + 2) told) = d2 at *
            have h17 : Sat W w16 (SlR T_api_Msg 59 s79 (outL d2 vs3) :: ClM b { d2 with out := none } :: Blk y (lc d.asked.corr off (E + 2) told) T_api_Msg :: Blk g2 (hcells cf 0 b hs0) T_penstocklaw19_hold :: Blk gs sv.cells T_penstocklaw19_server :: l) := h17
            refine ⟨⟨_, h17.sel 4 [2, 3, 0, 1]⟩, ?_⟩
            have hol17 := h17.slLen.1
            -- the trace
            have tr : ∀ (z : Sl) (z4 : List Value) (d3 : Cl) (want : Int) (l1 l2 : List Sn) (ev : Sn) (w17 : World), d3.seen = l1 ++ ev :: l2 → l1.length = vals.length → ev.kind = want → ev.op = vals.length → d3.seen.length ≤ 1099511627776 →
                want = (if known = true ∧ told = t then (if t then 2 else 3) else 4) → Sat W w17 (SlR T_api_Msg 59 z z4 :: ClM b d3 :: Blk g2 (hcells cf 0 b hs0) T_penstocklaw19_hold :: Blk gs sv.cells T_penstocklaw19_server :: l) →
                (want = 4 → d3.done = false ∧ d3.op = 0 ∧ ∃ (a : Aq) (vs : Sl), z4 = a.cells vs ∧ a.kind = 8 ∧ a.epoch = E + 2) → (want ≠ 4 → z.len = 0) →
                (nilCk (some (⟨g2, 0, none⟩ : Addr)) fun (a88 : Addr) =>
                RunQ .ptr P (Instr.loadAt T_p_client_Client (.pointer (some (a88.add 5)))) w17 fun (p89 : Option Addr) =>
                CallP P F_client_Client_Trace [(.pointer p89)] w17 fun (v90 : Value) w91 =>
                TyP .sl v90 fun (s92 : Sl) =>
                JoinP (T := Int × Unit) (fun J93 =>
                ifB known
                (ifB (told == t)
                (ifB t
                (J93 (some (2, ())) w91)
                (J93 (some (3, ())) w91))
                (J93 (some (4, ())) w91))
                (J93 (some (4, ())) w91))
                fun t94 w95 =>
                JoinP (T := Unit) (fun J96 =>
                ifB (decide ((↑s92.len : Int) ≤ (↑x0.len : Int)))
                (K (.bool false) w95)
                (RunQ .addr P (Instr.indexAt T_sl_api_Seen s92.v (.int .i64 ((↑x0.len : Int)))) w95 fun (a99 : Addr) =>
                RunQ (.int .i64) P (Instr.loadAt T_int (.pointer (some (Go.Addr.add a99 0)))) w95 fun (n100 : Int) =>
                ifB (n100 != t94.fst)
                (K (.bool false) w95)
                (RunQ .addr P (Instr.indexAt T_sl_api_Seen s92.v (.int .i64 ((↑x0.len : Int)))) w95 fun (a101 : Addr) =>
                RunQ (.int .i64) P (Instr.loadAt T_int (.pointer (some (Go.Addr.add a101 2)))) w95 fun (n102 : Int) =>
                ifB (n102 != (↑x0.len : Int))
                (K (.bool false) w95)
                (J96 (some ()) w95))))
                fun t97 w98 =>
                ifB (t94.fst == 4)
                (nilCk (some (⟨g2, 0, none⟩ : Addr)) fun (a103 : Addr) =>
                RunQ .ptr P (Instr.loadAt T_p_client_Client (.pointer (some (a103.add 5)))) w98 fun (p104 : Option Addr) =>
                CallP P F_client_Client_State [(.pointer p104)] w98 fun (v105 : Value) w106 =>
                TupP [(.int .i64), (.int .i64), .bool] v105 fun (t107 : Int × Int × Bool × Unit) =>
                ifB (!t107.snd.snd.fst)
                (ifB (t107.fst == 0)
                (ifB ((↑z.len : Int) == 1)
                (RunQ .addr P (Instr.indexAt T_sl_api_Msg z.v (.int .i64 0)) w106.drew fun (a108 : Addr) =>
                RunQ (.int .i64) P (Instr.loadAt T_int (.pointer (some (Go.Addr.add a108 0)))) w106.drew fun (n109 : Int) =>
                ifB (n109 == 8)
                (RunQ .addr P (Instr.indexAt T_sl_api_Msg z.v (.int .i64 0)) w106.drew fun (a110 : Addr) =>
                RunQ (.int .i64) P (Instr.loadAt T_int (.pointer (some (Go.Addr.add a110 50)))) w106.drew fun (n111 : Int) =>
                RunQ (.int .i64) P (Instr.loadAt T_int (.pointer (some (Go.Addr.add (⟨gs, 0, none⟩ : Addr) 2)))) w106.drew fun (n112 : Int) =>
                K (.bool (n111 == IntKind.i64.wrap (n112 + 2))) w106.drew)
                (K (.bool false) w106.drew))
                (K (.bool false) w106.drew))
                (K (.bool false) w106.drew))
                (K (.bool false) w106.drew))
                (K (.bool ((↑z.len : Int) == 0)) w98)) := by
              intro z z4 d3 want l1 l2 ev w17 e1 e2 e3 e4 e5 e6 h18 e7 e8
              have h18g : Sat W w17 (Blk g2 (hcells cf 0 b hs0) T_penstocklaw19_hold :: SlR T_api_Msg 59 z z4 :: ClM b d3 :: Blk gs sv.cells T_penstocklaw19_server :: l) := h18.sel 3 [2, 0, 1]
              refine ldX h18g 5 (k := .ptr) (x := some ⟨b, 0, none⟩) ?_
              refine trace_ok h18.swap e5 fun s92 w18 h19 => tyI (k := .sl) ?_
              have hsl : s92.len = d3.seen.length := RdC.elen (E := elS) h19.rdc (by decide)
              have hlt : vals.length < d3.seen.length := by rw [e1, List.length_append, List.length_cons]; omega
              have hev : d3.seen[vals.length]? = some ev := by rw [e1, List.getElem?_append_right (by omega), e2, Nat.sub_self]; rfl
              have h20 : Sat W w18 (SlR T_api_Msg 59 z z4 :: ClM b d3 :: Blk g2 (hcells cf 0 b hs0) T_penstocklaw19_hold :: Blk gs sv.cells T_penstocklaw19_server :: l) := h19.sel 5 [2, 1, 3, 4]
              refine ⟨fun z w' => z.1 = want ∧ w' = w18, ?_, ?_⟩
              · rintro ⟨z94, u⟩ w19 ⟨hz94, rfl⟩
                simp only at hz94
                subst hz94
                refine ⟨fun _ w' => w' = w19, ?_, ?_⟩
                · rintro _ w20 rfl
                  refine ifB_beq (fun w4 => ?_) fun w4 => ?_
                  · obtain ⟨k3, k4, a, vs4, k5, k6, k7⟩ := e7 w4
                    have h20g : Sat W w20 (Blk g2 (hcells cf 0 b hs0) T_penstocklaw19_hold :: SlR T_api_Msg 59 z z4 :: ClM b d3 :: Blk gs sv.cells T_penstocklaw19_server :: l) := h20.sel 3 [2, 0, 1]
                    refine ldX h20g 5 (k := .ptr) (x := some ⟨b, 0, none⟩) ?_
                    refine state_ok h20.swap fun w21 h21 => ?_
                    refine ⟨(d3.op, d3.inc, d3.done, ()), rfl, ?_⟩
                    have h22 : Sat W w21.drew (SlR T_api_Msg 59 z z4 :: ClM b d3 :: Blk g2 (hcells cf 0 b hs0) T_penstocklaw19_hold :: Blk gs sv.cells T_penstocklaw19_server :: l) := h21.drew.swap
                    rw [k5] at h22
                    have hzl : z.len = 1 := by
                      have e : 59 = z.len * 59 := h22.slLen.1
                      omega
                    have h22s : Sat W w21.drew (Blk gs sv.cells T_penstocklaw19_server :: SlR T_api_Msg 59 z (a.cells vs4) :: ClM b d3 :: Blk g2 (hcells cf 0 b hs0) T_penstocklaw19_hold :: l) := h22.sel 4 [3, 0, 1, 2]
                    simp only [k3, Bool.not_false, ifB_true]
                    refine ifB_beq (fun _ => ?_) fun hne => absurd k4 hne
                    refine ifB_beq (fun _ => ?_) fun hne => absurd (by omega) hne
                    refine ixCell et_msgs h22.rdc 0 (x := a.kind) (by omega) (by omega) (by decide) rfl ?_
                    refine ifB_beq (fun _ => ?_) fun hne => absurd k6 hne
                    refine ixCell et_msgs h22.rdc 50 (x := a.epoch) (by omega) (by omega) (by decide) rfl ?_
                    refine ldX h22s 2 (x := sv.ep) ?_
                    rw [k7, hw2, show (E + 2 == E + 2) = true from by simp]
                    exact hK _ h22.tail.tail.tail.tail
                  · rw [show ((z.len : Int) == 0) = true from by rw [e8 w4]; rfl]
                    exact hK _ h20.tail.tail.tail.tail
                · refine ifB_dec (fun hle => absurd hle (by omega)) fun _ => ?_
                  refine ixEl (E := elS) et_seen rfl h19.rdc (by omega) (by rw [Int.toNat_natCast, hl0]; exact hev) (by omega) fun A2 hA2 => ?_
                  refine ldC (x := ev.kind) (hA2 0 _ rfl) ?_
                  refine ifB_bne (fun hne => absurd e3 hne) fun _ => ?_
                  refine ixEl (E := elS) et_seen rfl h19.rdc (by omega) (by rw [Int.toNat_natCast, hl0]; exact hev) (by omega) fun A2 hA2 => ?_
                  refine ldC (x := ev.op) (hA2 2 _ rfl) ?_
                  refine ifB_bne (fun hne => absurd (by rw [e4, hl0]) hne) fun _ => rfl
              · rw [e6]
                cases known <;> cases told <;> cases t <;> exact ⟨rfl, rfl⟩
            by_cases hgd : known = true ∧ told = t
            · obtain ⟨g1, g3, g4, l1, l2, ev, g5, g6, g7, g8⟩ := good (k1 hgd.1) rfl hgd.2
              have h79 : s79.len = 0 := by
                rw [show outL d2 vs3 = [] from by unfold outL; rw [g4]] at hol17
                simp at hol17; omega
              refine ⟨fun z w' => ∃ (d3 : Cl) (z4 : List Value), z.1.len = 0 ∧ d3.seen = d2.seen ∧ Sat W w' (SlR T_api_Msg 59 z.1 z4 :: ClM b d3 :: Blk g2 (hcells cf 0 b hs0) T_penstocklaw19_hold :: Blk gs sv.cells T_penstocklaw19_server :: l), ?_, ?_⟩
              · rintro ⟨z, u⟩ w17 ⟨d3, z4, hz, hs3, h18⟩
                refine tr z z4 d3 (if t then 2 else 3) l1 l2 ev w17 (hs3.trans g5) g6 g7 g8 (by rw [hs3]; have := q16.seen; omega) (by rw [if_pos hgd]) h18 (fun h => ?_) (fun _ => hz)
                cases t with
                | true => cases h
                | false => cases h
              · refine ifB_beq (fun _ => ?_) fun hne => absurd (by omega) hne
                have h18 : Sat W w16 (Blk g2 (hcells cf 0 b hs0) T_penstocklaw19_hold :: ClM b { d2 with out := none } :: Blk gs sv.cells T_penstocklaw19_server :: l) := h17.sel 5 [3, 1, 4]
                refine ldX h18 5 (k := .ptr) (x := some ⟨b, 0, none⟩) ?_
                have etk : ({ d2 with out := none } : Cl).tick = { d2 with out := none } := by
                  unfold Cl.tick
                  rw [if_pos (show ({ d2 with out := none } : Cl).waits = false from g3)]
                  unfold Cl.decide
                  rw [if_pos (show ({ d2 with out := none } : Cl).done = true from g1)]
                have q17 := q16.taken
                refine tstep (f := fxOf cf 0 p) (sn := []) (N := 1001 + 24) h18.swap hf q17 rfl (by omega) fun s87 vs5 w17 _ _ h19 => tyI (k := .sl) ?_
                rw [etk] at h19
                have h19 : Sat W w17 (SlR T_api_Msg 59 s87 [] :: ClM b { d2 with out := none } :: Blk g2 (hcells cf 0 b hs0) T_penstocklaw19_hold :: Blk gs sv.cells T_penstocklaw19_server :: l) := h19
                have h87 : s87.len = 0 := by
                  have := h19.slLen.1
                  simp at this; omega
                exact ⟨{ d2 with out := none }, [], h87, rfl, h19⟩
            · have hno : off ≠ E ∨ told ≠ t := by
                cases hkn : known with
                | false => exact .inl (k2 hkn)
                | true => exact .inr fun h => hgd ⟨hkn, h⟩
              obtain ⟨g1, g2', ⟨to4, g3⟩, g4, g5, l1, l2, ev, g6, g7, g8, g9⟩ := fail hno
              have e17 : outL d2 vs3 = ({ d2.asked with to := to4 } : Aq).cells vs3 := by unfold outL; rw [g3]
              rw [e17] at h17
              have h79 : s79.len = 1 := by
                have e : 59 = s79.len * 59 := h17.slLen.1
                omega
              refine ⟨fun z w' => Sat W w' (SlR T_api_Msg 59 z.1 (({ d2.asked with to := to4 } : Aq).cells vs3) :: ClM b { d2 with out := none } :: Blk g2 (hcells cf 0 b hs0) T_penstocklaw19_hold :: Blk gs sv.cells T_penstocklaw19_server :: l), ?_, ?_⟩
              · rintro ⟨z, u⟩ w17 h18
                exact tr z _ { d2 with out := none } 4 l1 l2 ev w17 g6 g7 g8 g9 (by show d2.seen.length ≤ _; have := q16.seen; omega) (by rw [if_neg hgd]) h18 (fun _ => ⟨g1, g2', _, _, rfl, g4, g5⟩) (fun h => absurd rfl h)
              · refine ifB_beq (fun h0 => absurd h0 (by omega)) fun _ => h17.sel 5 [0, 1, 3, 4]
          · have h15 : Sat W w14 (Blk y (lc d.asked.corr sv.ep (E + 2) told) T_api_Msg :: SlR T_api_Msg 59 s52 (({ d.asked with to := to } : Aq).cells vs) :: ClM b d :: Blk g2 (hcells cf 0 b hs0) T_penstocklaw19_hold :: Blk gs sv.cells T_penstocklaw19_server :: l) := h14
            cases known with
            | true => exact ⟨sv.ep, fun _ => hep, (fun h => by cases h), h15⟩
            | false =>
              have h15s : Sat W w14 (Blk gs sv.cells T_penstocklaw19_server :: Blk y (lc d.asked.corr sv.ep (E + 2) told) T_api_Msg :: SlR T_api_Msg 59 s52 (({ d.asked with to := to } : Aq).cells vs) :: ClM b d :: Blk g2 (hcells cf 0 b hs0) T_penstocklaw19_hold :: l) := h15.sel 5 [4, 0, 1, 2, 3]
              refine ldX h15s 2 (x := sv.ep) ?_
              refine stX h15 46 fun w15 h16 => ?_
              rw [hw3] at h16
              exact ⟨E - 2, (fun h => by cases h), (fun _ => by omega), h16⟩
        · refine ifB_bne (fun hne => absurd (by omega) hne) fun _ => ?_
          refine ixCell et_msgs h11.rdc 0 (x := d.asked.kind) (by omega) (by omega) (by decide) rfl ?_
          refine ifB_bne (fun hne => absurd f1 hne) fun _ => ?_
          refine ixCell et_msgs h11.rdc 48 (x := d.asked.inc) (by omega) (by omega) (by decide) rfl ?_
          refine ifB_bne (fun hne => absurd f3 hne) fun _ => rfl
      · cases t with
        | true => exact ⟨rfl, h2⟩
        | false => exact ⟨rfl, h2⟩
  · refine awake19_ok h fun w1 h1 => tyI (k := .bool) ?_
    simp only [Bool.not_true, ifB_false]
    refine ifB_beq (fun _ => awake19_ok h1 fun w2 h2 => tyI (k := .bool) (hK w2 h2)) fun hne => ?_
    refine ifB_dec (fun _ => awake19_ok h1 fun w2 h2 => tyI (k := .bool) (hK w2 h2)) fun hle => ⟨by omega, by omega, h1⟩
end
end Go.Proofs.Ytajhdjjmhfbhgaa
