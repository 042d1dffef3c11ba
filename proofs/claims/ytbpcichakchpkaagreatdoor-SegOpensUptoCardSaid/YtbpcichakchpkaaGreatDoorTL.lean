/- Layer 8: the law SegFiles, walked. -/
import Derived.Test.YtbpcichakchpkaaGreatDoorTJ
namespace Go.Proofs.YtbpcichakchpkaaGreatDoor
open Go Go.Pk
theorem padd_step (k u : Nat) : padd (k + 1) (u % 10 ^ (k + 1)) = UInt8.ofNat (48 + u / 10 ^ k % 10) :: padd k (u % 10 ^ k) := by
  rw [padd]
  have e1 : u % 10 ^ (k + 1) / 10 ^ k = u / 10 ^ k % 10 := by
    rw [Nat.pow_succ, Nat.mod_mul_right_div_self]
  have e2 : u % 10 ^ (k + 1) % 10 ^ k = u % 10 ^ k := by
    rw [Nat.pow_succ, Nat.mod_mul_right_mod]
  rw [e1, e2]
theorem digit_str (d : Nat) (h : d < 10) : (ByteArray.mk #[48, 49, 50, 51, 52, 53, 54, 55, 56, 57]).extract d (d + 1) = vK [UInt8.ofNat (48 + d)] := by
  have : ∀ d : Fin 10, (ByteArray.mk #[48, 49, 50, 51, 52, 53, 54, 55, 56, 57]).extract d.val (d.val + 1) = vK [UInt8.ofNat (48 + d.val)] := by decide +kernel
  exact this ⟨d, h⟩
theorem find_live {d : Dk} {n : List UInt8} {f : Fl} (ha : d.dead = false) (h : d.look n = some f) : d.find n = (some f, 0) := by
  unfold Dk.find
  rw [ha, h]; rfl
theorem next_base {gs : Gr} {pre post : Gr} {p : Int × List Bd} (hg : GCh gs) (e : gs = pre ++ p :: post) : (post = [] → grFin gs = chEnd p.1 p.2) ∧ ∀ q qs, post = q :: qs → q.1 = chEnd p.1 p.2 := by
  have hsuf : ∀ (a b : Gr), GCh (a ++ b) → GCh b := by
    intro a
    induction a with
    | nil => intro b h; simpa using h
    | cons x a ih =>
      intro b h
      cases hab : a ++ b with
      | nil =>
        have : b = [] := (List.append_eq_nil_iff.1 hab).2
        subst this; trivial
      | cons y c =>
        have h' : GCh (x :: (a ++ b)) := h
        rw [hab] at h'
        have := h'.2.2.2
        rw [← hab] at this
        exact ih b this
  refine ⟨fun h => by rw [e, h, grFin_snoc], fun q qs h => ?_⟩
  subst h
  have := hsuf pre (p :: q :: qs) (e ▸ hg)
  exact this.2.2.1
section
variable {W w : World} {l : List Res} {K : Value → World → Prop}
def p3N : List UInt8 := [112, 51]
theorem p3N_ok : p3N ≠ [] ∧ p3N.length ≤ 8 ∧ ¬ 46 ∈ p3N := by unfold p3N; simp
/-- the law's numeral -/
theorem digits_ok {v : Int} {Kn : ByteArray × Int × Int × Unit → World → Prop} (h0 : 0 ≤ v ∧ v < 100000000) (hK : ∀ n m, Kn (vK (padd 8 v.toNat), n, m, ()) w) :
    LoopP (T := ByteArray × Int × Int × Unit) (some ((ByteArray.mk #[]), (v, (0, ())))) w fun next49 t50 w51 =>
      ifB (decide (t50.snd.snd.fst < 8))
        (RunQ .str P (Instr.sliceAt T_string (.string (ByteArray.mk #[48, 49, 50, 51, 52, 53, 54, 55, 56, 57])) (some (.int .i64 (Int.tmod t50.snd.fst 10))) (some (.int .i64 (IntKind.i64.wrap (Int.tmod t50.snd.fst 10 + 1)))) none) w51 fun (t52 : ByteArray) =>
          RunK .str P (do (eqGuard .add T_string (.tmp 0) (.tmp 0) (.string t52) (.string t50.fst)); (binOp .add T_string (.string t52) (.string t50.fst))) w51 fun (t53 : ByteArray) w54 =>
            next49 (some (t53, ((IntKind.i64.wrap (Int.tdiv t50.snd.fst 10)), ((IntKind.i64.wrap (t50.snd.snd.fst + 1)), ())))) w54)
        (Kn t50 w51) := by
  obtain ⟨u, rfl⟩ : ∃ u : Nat, v = u := ⟨v.toNat, by omega⟩
  have eu : ((u : Int)).toNat = u := by omega
  rw [eu] at hK
  refine ⟨fun t w' => ∃ k q : Nat, k ≤ 8 ∧ t.2.2.1 = k ∧ q = u / 10 ^ k ∧ t.2.1 = (q : Int) ∧ t.1 = vK (padd k (u % 10 ^ k)) ∧ w' = w, fun t _ => 8 - t.2.2.1.toNat, ⟨0, u, by omega, rfl, by simp, rfl, rfl, rfl⟩, ?_⟩
  rintro ⟨t1, t2, t3, uu⟩ w2 ⟨k, q, hk, h3, hq, h2, h1, rfl⟩
  simp only at h1 h2 h3 ⊢
  subst h3; subst h2; subst h1
  have hqu : q ≤ u := by rw [hq]; exact Nat.div_le_self _ _
  have hm : Int.tmod (q : Int) 10 = ((q % 10 : Nat) : Int) := by
    rw [Int.tmod_eq_emod_of_nonneg (by omega)]; omega
  have hd : Int.tdiv (q : Int) 10 = ((q / 10 : Nat) : Int) := by
    rw [Int.tdiv_eq_ediv_of_nonneg (by omega)]; omega
  have hq1 : q / 10 = u / 10 ^ (k + 1) := by rw [hq, Nat.pow_succ, ← Nat.div_div_eq_div_mul]
  refine ifB_dec (fun c => ?_) fun c => ?_
  · have hlt : q % 10 < 10 := Nat.mod_lt _ (by decide)
    rw [hm, hd, w_i64 (n := ((q % 10 : Nat) : Int) + 1) (by omega) (by omega), w_i64 (n := ((q / 10 : Nat) : Int)) (by omega) (by omega), w_i64 (n := (k : Int) + 1) (by omega) (by omega)]
    refine ⟨vK [UInt8.ofNat (48 + q % 10)], ?_, ?_⟩
    · rw [run_strLH (P := P) (ts := T_string) (by kernel_rfl) (by omega) (by omega) (by show _ ≤ ((10 : Nat) : Int); omega)]
      have e1 : (((q % 10 : Nat) : Int)).toNat = q % 10 := by omega
      have e2 : (((q % 10 : Nat) : Int) + 1).toNat = q % 10 + 1 := by omega
      rw [e1, e2, digit_str _ hlt]
    · refine strAddK (x := [UInt8.ofNat (48 + q % 10)]) (y := padd k (u % 10 ^ k)) (by rw [padd_len]; simp; omega) ?_
      refine ⟨⟨k + 1, q / 10, by omega, by show (k : Int) + 1 = _; omega, hq1, rfl, ?_, rfl⟩, by show 8 - ((k : Int) + 1).toNat < 8 - ((k : Int)).toNat; omega⟩
      rw [padd_step, ← hq]; rfl
  · have hk8 : k = 8 := by omega
    subst hk8
    have h108 : (10 : Nat) ^ 8 = 100000000 := by decide
    rw [Nat.mod_eq_of_lt (by omega)]
    exact hK _ _
set_option maxHeartbeats 1000000 in
theorem law_files8 {s : Sl} {xs : List Dc} (h : Sat W w l) (hl : Lai W l) (hx : BsRd W l s xs) (hK : ∀ w', Sat W w' l → K (.bool true) w') : CallP P F_law08_SegFiles [s.v] w K := by
  apply c_law08_SegFiles
  unfold S_law08_SegFiles
  refine dkNew_ok h fun b w1 h1 => tyI (k := .ptr) ?_
  refine open_ok (n := p3N) h1 hl rfl p3N_ok (fun f hf => by simp [Dk.new, Dk.names] at hf) (by simp [Dk.new]) (fun f hf => by simp [Dk.new, Dk.names] at hf) fun a w4 _ _ h2 => tup2p ?_
  rw [(open_new p3N).1, (open_new p3N).2] at h2
  refine boxB h2 fun a6 w7 h3 => ?_
  refine ⟨fun _ w' => Sat W w' (LgR a b ⟨p3N, [], 0⟩ :: DkR b Dk.new :: RlL a6 ⟨[], [], 0⟩ ⟨none, 0, 0⟩ ⟨none, 0, 0⟩ [] l), ?_, ?_⟩
  · rintro _ w10 h4
    refine puts_ok (Kn := fun w => _) ⟨p3N_ok.1, p3N_ok.2.1⟩ h4 hl hx hK fun g d gs r ls bs ds w16 hB hso hds h5 => ?_
    have hfew := hx.few
    have hft := hB.fit (by omega)
    have hsm := hB.small (by omega)
    obtain ⟨hrb, hrc, hrl, hrbl⟩ := hB.rb (by omega)
    have h6 : Sat W w16 (DkR b d :: RlL a6 r ls bs ds l) := h5.tail
    have hok : DkOk d := by obtain ⟨_, _, _, hok, _⟩ := sat_dk.1 h6; exact hok
    refine names_ok h6 fun s39 w38 h7 => tyI (k := .sl) ?_
    have hfl := lay_fls hB.lay hB.live.1 hok.nodup hsm
    have hnm : srt d.names = gs.map fun p => segF p3N p.1 := by
      rw [← hfl.order]
      refine (filter_all fun f hf => ?_).symm
      exact hso f ((List.mergeSort_perm d.names _).mem_iff.1 hf)
    rw [hnm] at h7
    have h8 : Sat W w38 (RlL a6 r ls bs ds (SlR T_string 1 s39 ((gs.map fun p => segF p3N p.1).map vStr) :: DkR b d :: l)) := h7.sel 5 [2, 3, 4, 0, 1]
    have hil := Sat.isLen (h8.up 2)
    have hsl := (h7.slLen).1
    simp only [List.length_map, Nat.mul_one] at hsl
    have hbl : r.bases.length = gs.length := by rw [hB.mt.bases]; simp
    have hgl := gch_len hB.lay.chain
    have hfew2 := hB.few
    refine ldX h8 1 (x := bs) ?_
    refine ifB_bne (fun c => absurd (show ((s39.len : Nat) : Int) = bs.len by omega) c) fun _ => ?_
    refine ⟨fun t w' => ∃ i : Nat, t.1 = i ∧ i ≤ gs.length ∧ Sat W w' (RlL a6 r ls bs ds (SlR T_string 1 s39 ((gs.map fun p => segF p3N p.1).map vStr) :: DkR b d :: l)), fun t _ => gs.length - t.1.toNat, ⟨0, rfl, Nat.zero_le _, h8⟩, ?_⟩
    rintro ⟨ti, u⟩ w43 ⟨i, hi, hil2, h9⟩
    simp only at hi ⊢
    subst hi
    refine ifB_dec (fun c => ?_) fun c => hK w43 (h9.sel 5 [])
    have hgi : gs[i]? = some gs[i] := List.getElem?_eq_getElem (by omega)
    have hmem := List.mem_of_getElem? hgi
    generalize hp : gs[i] = p at hgi hmem
    have hsp := small_mem hB.lay.chain hsm hmem
    have ei : ((i : Int)).toNat = i := by omega
    refine ixld et_strs (k := .str) (x := vK (segF p3N p.1)) (Sat.rdc (h9.up 3)) (by omega) (by rw [ei, List.getElem?_map, List.getElem?_map, hgi]; rfl) ?_
    have hbi : r.bases[i]? = some p.1 := by rw [hB.mt.bases, List.getElem?_map, hgi]; rfl
    refine ldX h9 1 (x := bs) ?_
    refine is_at et_isl hbi (h9.up 2) ?_ (by kernel_rfl)
    refine digits_ok (Kn := fun t w => _) hsp fun n9 m9 => ?_
    simp only
    refine rfin_ok hds h9 hrb fun w56 h10 => tyI (k := .int .i64) ?_
    have hfin := mt_fin hB.mt hB.lay.chain
    have hsplit : ∃ pre post, gs = pre ++ p :: post ∧ pre.length = i := by
      have hlt := (List.getElem?_eq_some_iff.1 hgi).1
      refine ⟨gs.take i, gs.drop (i + 1), ?_, by simp; omega⟩
      rw [← drop_at hgi, List.take_append_drop]
    obtain ⟨pre, post, hspl, hprel⟩ := hsplit
    refine ⟨fun t w' => t.1 = chEnd p.1 p.2 ∧ Sat W w' (RlL a6 r ls bs ds (SlR T_string 1 s39 ((gs.map fun p => segF p3N p.1).map vStr) :: DkR b d :: l)), ?_, ?_⟩
    · rintro ⟨m, uu⟩ w60 ⟨hm, h11⟩
      simp only at hm ⊢
      subst hm
      have h12 : Sat W w60 (DkR b d :: RlL a6 r ls bs ds (SlR T_string 1 s39 ((gs.map fun p => segF p3N p.1).map vStr) :: l)) := h11.sel 5 [4, 0, 1, 2, 3]
      obtain ⟨sy, hsy⟩ := hB.lay.data p hmem
      have hfind := find_live hB.live.1 hsy
      refine dread_ok h12 (fun e w' he => by rw [hfind] at he; cases he) fun f sf w66 he hfl2 h13 => tup2 ?_
      rw [hfind] at he
      obtain rfl : (⟨fsOf p.2, sy⟩ : Fl) = f := Option.some.inj (congrArg Prod.fst he)
      have hfl2 : (fsOf p.2).length ≤ 4194304 := hfl2
      have h13 : Sat W w66 (BsR sf (fsOf p.2) :: DkR b d :: RlL a6 r ls bs ds (SlR T_string 1 s39 ((gs.map fun p => segF p3N p.1).map vStr) :: l)) := h13
      have h14 := h13.drew
      let S : World → Prop := fun w => ∃ L, Sat W w (RlL a6 r ls bs ds L)
      have hS : ∀ w, S w → ∃ L, Sat W w (Blk a6 (rlcells r ls bs) T_penstockref08_Log :: L) := fun w hw => by obtain ⟨L, hw⟩ := hw; exact ⟨_, hw⟩
      refine ⟨S, ⟨_, h14.sel 5 [2, 3, 4, 0, 1]⟩, ?_⟩
      refine ifB_bne (fun c => absurd rfl c) fun _ => ?_
      refine strAddK (x := [112, 51, 46]) (y := padd 8 p.1.toNat) (by rw [padd_len]; decide) ⟨⟨_, h14.sel 5 [2, 3, 4, 0, 1]⟩, ?_⟩
      have hname : segF p3N p.1 = [112, 51, 46] ++ padd 8 p.1.toNat := by rw [segF_eq _ hsp.1 hsp.2]; rfl
      rw [str_eq, decide_eq_true hname]
      refine ifB_intro (fun c => absurd c (by simp)) fun _ => ?_
      refine hldX hS 0 (x := ls) ?_
      refine hldX hS 1 (x := bs) ?_
      obtain ⟨ad, had⟩ := some_of_lt ((h14.up 4).rdc) (n := i) (by omega)
      refine ⟨ad.add (((i : Int)).toNat * 1), fun w _ => run_ix et_isl had (by omega) (by omega) w, ?_⟩
      refine ⟨p.1, fun w hw => run_load1 (by kernel_rfl) ?_, ?_⟩
      · obtain ⟨L, hw⟩ := hw
        have hrd := (Sat.up (L := RlL a6 r ls bs ds L) hw 2).rdc
        have := hrd.2.2.2 ad had i (vI p.1) (by rw [List.getElem?_map, hbi]; rfl)
        simp only [Nat.mul_one, Int.toNat_natCast] at this ⊢
        exact this
      · let L : List Res := OwnS elB ls ds :: BsR sf (fsOf p.2) :: DkR b d :: Blk a6 (rlcells r ls bs) T_penstockref08_Log :: IsR bs r.bases :: SlR T_string 1 s39 ((gs.map fun p => segF p3N p.1).map vStr) :: l
        have h15 : Sat W w66.drew L := h14.sel 5 [3, 0, 1, 2, 4]
        have hdl : ds.length = r.list.length := by rw [← hds]; simp
        have hin : (ds.map Dc.bd).filter (inB p.1 (chEnd p.1 p.2)) = p.2 := by rw [hds, hB.mt.list, in_group hB.lay.chain hspl]
        refine frames_ok (n := p.1) (m := chEnd p.1 p.2) h15 Rd.ownS (fun e he => ?_) (fun e he => ?_) (by omega) fun t w76 h16 => tyI (k := .sl) ⟨⟨_, h16.sel 6 [4, 1, 5, 0, 2, 3]⟩, ?_⟩
        · obtain ⟨k, hk⟩ := List.getElem?_of_mem he
          obtain ⟨q1, q2⟩ := bt_rd hk h15
          exact ⟨q1, q2, hrc e.bd (by rw [← hds]; exact List.mem_map_of_mem he)⟩
        · have := hrb e.bd (by rw [← hds]; exact List.mem_map_of_mem he)
          exact ⟨this.2, this.1⟩
        · rw [hin] at h16
          refine same_ok (xs := fsOf p.2) (ys := fsOf p.2) h16 ?_ Rd.own (by omega) fun w79 h17 => tyI (k := .bool) ⟨⟨_, h17.sel 6 [4, 1, 5, 0, 2, 3]⟩, ?_⟩
          · have : Rd W (BsR sf (fsOf p.2) :: DkR b d :: Blk a6 (rlcells r ls bs) T_penstockref08_Log :: IsR bs r.bases :: SlR T_string 1 s39 ((gs.map fun p => segF p3N p.1).map vStr) :: l) sf 1 ((fsOf p.2).map vB) := Rd.own
            exact this.cons.cons
          · rw [decide_eq_true rfl]
            refine ifB_intro (fun c => absurd c (by simp)) fun _ => ?_
            rw [w_i64 (n := (i : Int) + 1) (by omega) (by omega)]
            exact ⟨⟨i + 1, by show (i : Int) + 1 = _; omega, by omega, h17.sel 7 [4, 1, 5, 6, 3]⟩, by show gs.length - ((i : Int) + 1).toNat < gs.length - (i : Int).toNat; omega⟩
    · refine ldX h10 1 (x := bs) ?_
      have hlen : gs.length = i + 1 + post.length := by rw [hspl]; simp; omega
      have hnx := next_base hB.lay.chain hspl
      rw [w_i64 (n := (i : Int) + 1) (by omega) (by omega)]
      refine ifB_dec (fun c2 => ?_) fun c2 => ?_
      · cases hq : post with
        | nil => rw [hq] at hlen; simp at hlen; omega
        | cons q qs =>
          have hnx := hnx.2 q qs hq
          have hbq : r.bases[i + 1]? = some q.1 := by
            rw [hB.mt.bases, hspl, hq, List.getElem?_map, List.getElem?_append_right (by omega)]
            rw [show i + 1 - pre.length = 1 by omega]; rfl
          refine ldX h10 1 (x := bs) ?_
          refine is_at (i := i + 1) et_isl hbq (h10.up 2) ?_ (by kernel_rfl)
          exact ⟨hnx, h10⟩
      · cases hq : post with
        | nil =>
          exact ⟨by show r.fin = _; rw [hfin.1]; exact hnx.1 hq, h10⟩
        | cons q qs => rw [hq] at hlen; simp at hlen; omega
  · have h4 : Sat W w7 (Blk a6 (rlcells ⟨[], [], 0⟩ ⟨none, 0, 0⟩ ⟨none, 0, 0⟩) T_penstockref08_Log :: LgR a b ⟨p3N, [], 0⟩ :: DkR b Dk.new :: l) := h3
    have h5 : Sat W w7 (IsR ⟨none, 0, 0⟩ [] :: Blk a6 (rlcells ⟨[], [], 0⟩ ⟨none, 0, 0⟩ ⟨none, 0, 0⟩) T_penstockref08_Log :: LgR a b ⟨p3N, [], 0⟩ :: DkR b Dk.new :: l) := Sat.nilSlr h4 T_int 1
    have h6 := own_nil (E := elB) h5
    have h7 : Sat W w7 (LgR a b ⟨p3N, [], 0⟩ :: DkR b Dk.new :: RlL a6 ⟨[], [], 0⟩ ⟨none, 0, 0⟩ ⟨none, 0, 0⟩ [] l) := h6.sel 5 [3, 4, 2, 0, 1]
    refine awake8_ok h7 hl.cons.cons.cons.cons.cons fun w12 h8 => tyI (k := .bool) ?_
    refine ifB_intro (fun c => absurd c (by simp)) fun _ => ?_
    refine ifB_intro (fun c => absurd c (by simp)) fun _ => ?_
    refine ifB_bne (fun c => absurd rfl c) fun _ => h8
end
end Go.Proofs.YtbpcichakchpkaaGreatDoor
