/- Layer 8: the values of batches that were told are overwritten. -/
import Derived.Test.YtbpcichakchpkaaGreatDoorTF
namespace Go.Proofs.YtbpcichakchpkaaGreatDoor
open Go Go.Pk
theorem zip_set {α β : Type} : ∀ (xs : List α) (ys : List β) (i : Nat) (y : β) (x : α), xs[i]? = some x → (xs.zip ys).set i (x, y) = xs.zip (ys.set i y)
  | [], _, _, _, _, h => by simp at h
  | a :: xs, [], i, y, x, _ => by simp
  | a :: xs, b :: ys, 0, y, x, h => by
    simp only [List.getElem?_cons_zero, Option.some.injEq] at h
    subst h; rfl
  | a :: xs, b :: ys, i + 1, y, x, h => by
    simp only [List.zip_cons_cons, List.set_cons_succ]
    rw [zip_set xs ys i y x (by simpa using h)]
theorem vals_at {ss : List Sl} {bs : List (List UInt8)} {i : Nat} {s : Sl} {b : List UInt8} (hs : ss[i]? = some s) (hb : bs[i]? = some b) : (vals ss bs)[i]? = some (BsR s b) := by
  unfold vals
  rw [List.getElem?_map, List.getElem?_zip_eq_some (z := (s, b)) |>.2 ⟨hs, hb⟩]; rfl
theorem vals_set {ss : List Sl} {bs : List (List UInt8)} {i : Nat} {s : Sl} {v : List UInt8} (hs : ss[i]? = some s) : (vals ss bs).set i (BsR s v) = vals ss (bs.set i v) := by
  unfold vals
  rw [← zip_set ss bs i v s hs, List.map_set]
section
variable {W w : World} {l : List Res} {K : Value → World → Prop}
theorem fillV_ok {vs : Sl} {ss : List Sl} {bs : List (List UInt8)} {Kn : World → Prop} (h : Sat W w (VsR vs ss bs :: l)) (hss : ss.length = bs.length) (hK : ∀ bs' w', bs'.length = bs.length → Sat W w' (VsR vs ss bs' :: l) → Kn w') :
    LoopP (T := Int × Unit) (some (0, ())) w fun next58 t59 w60 =>
      ifB (decide (t59.fst < (↑vs.len : Int)))
        (RunQ .addr P (Instr.indexAt T_sl_sl_uint8 vs.v (.int .i64 t59.fst)) w60 fun (a61 : Addr) =>
          RunQ .sl P (Instr.loadAt T_sl_uint8 (.pointer (some a61))) w60 fun (s62 : Sl) =>
          LoopP (T := Int × Unit) (some (0, ())) w60 fun next63 t64 w65 =>
            ifB (decide (t64.fst < (↑s62.len : Int)))
              (RunQ .addr P (Instr.indexAt T_sl_uint8 s62.v (.int .i64 t64.fst)) w65 fun (a66 : Addr) =>
                StoreP P T_uint8 (.pointer (some a66)) (.int .u8 1) w65 fun w67 =>
                  next63 (some ((IntKind.i64.wrap (t64.fst + 1)), ())) w67)
              (next58 (some ((IntKind.i64.wrap (t59.fst + 1)), ())) w65))
        (Kn w60) := by
  have hvl := ((sat_vs.1 h).slLen).1
  have hv63 := ((sat_vs.1 h).slLen).2
  simp only [List.length_map, Nat.mul_one] at hvl
  refine ⟨fun t w' => ∃ (j : Nat) (bs' : List (List UInt8)), t.1 = j ∧ j ≤ bs.length ∧ bs'.length = bs.length ∧ Sat W w' (VsR vs ss bs' :: l), fun t _ => bs.length - t.1.toNat, ⟨0, bs, rfl, Nat.zero_le _, rfl, h⟩, ?_⟩
  rintro ⟨tj, u⟩ w2 ⟨j, bs', hj, hjl, hb', h1⟩
  simp only at hj ⊢
  subst hj
  refine ifB_dec (fun c => ?_) fun c => hK bs' w2 hb' h1
  have hjs : ss[j]? = some ss[j] := List.getElem?_eq_getElem (by omega)
  have hjb : bs'[j]? = some bs'[j] := List.getElem?_eq_getElem (by omega)
  generalize ss[j] = s at hjs
  generalize bs'[j] = b at hjb
  have h2 := sat_vs.1 h1
  refine ixld et_vs (k := .sl) (x := s) (Sat.rdc h2) (by omega) (by rw [show ((j : Int)).toNat = j by omega, List.getElem?_map, hjs]; rfl) ?_
  have h3 := own_split (vals_at hjs hjb) h2.swap
  refine fillW_ok (Kn := fun w => _) h3 fun v' w3 hv' h4 => ?_
  have h5 := own_join (by unfold vals; simp; omega) h4
  rw [vals_set hjs] at h5
  rw [w_i64 (n := (j : Int) + 1) (by omega) (by omega)]
  exact ⟨⟨j + 1, bs'.set j v', by show (j : Int) + 1 = _; omega, by omega, by simp [hb'], sat_vs.2 h5.swap⟩, by show bs.length - ((j : Int) + 1).toNat < bs.length - (j : Int).toNat; omega⟩
/-- the values of all batches of a list are overwritten -/
theorem fillB_ok {s : Sl} {ds : List Dc} {Kn : World → Prop} (h : Sat W w (OwnS elB s ds :: l)) (hK : ∀ ds' w', ds'.length = ds.length → Sat W w' (OwnS elB s ds' :: l) → Kn w') :
    LoopP (T := Int × Unit) (some (0, ())) w fun next49 t50 w51 =>
      ifB (decide (t50.fst < (↑s.len : Int)))
        (RunQ .addr P (Instr.indexAt T_sl_api_Batch s.v (.int .i64 t50.fst)) w51 fun (a52 : Addr) =>
          RunQ .val P (Instr.loadAt T_api_Batch (.pointer (some a52))) w51 fun (v53 : Value) =>
          RunK .addr P (Instr.alloc T_api_Batch true (.tuple #[])) w51 fun (a54 : Addr) w55 =>
          StoreP P T_api_Batch (.pointer (some a54)) v53 w55 fun w56 =>
          RunQ .sl P (Instr.loadAt T_sl_sl_uint8 (.pointer (some (Go.Addr.add a54 8)))) w56 fun (s57 : Sl) =>
          LoopP (T := Int × Unit) (some (0, ())) w56 fun next58 t59 w60 =>
            ifB (decide (t59.fst < (↑s57.len : Int)))
              (RunQ .addr P (Instr.indexAt T_sl_sl_uint8 s57.v (.int .i64 t59.fst)) w60 fun (a61 : Addr) =>
                RunQ .sl P (Instr.loadAt T_sl_uint8 (.pointer (some a61))) w60 fun (s62 : Sl) =>
                LoopP (T := Int × Unit) (some (0, ())) w60 fun next63 t64 w65 =>
                  ifB (decide (t64.fst < (↑s62.len : Int)))
                    (RunQ .addr P (Instr.indexAt T_sl_uint8 s62.v (.int .i64 t64.fst)) w65 fun (a66 : Addr) =>
                      StoreP P T_uint8 (.pointer (some a66)) (.int .u8 1) w65 fun w67 =>
                        next63 (some ((IntKind.i64.wrap (t64.fst + 1)), ())) w67)
                    (next58 (some ((IntKind.i64.wrap (t59.fst + 1)), ())) w65))
              (next49 (some ((IntKind.i64.wrap (t50.fst + 1)), ())) w60))
        (Kn w51) := by
  have hol := own_len h (by decide : 0 < 9)
  refine ⟨fun t w' => ∃ (j : Nat) (ds' : List Dc), t.1 = j ∧ j ≤ ds.length ∧ ds'.length = ds.length ∧ Sat W w' (OwnS elB s ds' :: l), fun t _ => ds.length - t.1.toNat, ⟨0, ds, rfl, Nat.zero_le _, rfl, h⟩, ?_⟩
  rintro ⟨tj, u⟩ w2 ⟨j, ds', hj, hjl, hd', h1⟩
  simp only at hj ⊢
  subst hj
  refine ifB_dec (fun c => ?_) fun c => hK ds' w2 hd' h1
  have hd : ds'[j]? = some ds'[j] := List.getElem?_eq_getElem (by omega)
  generalize ds'[j] = d at hd
  refine own_atR hd h1 ?_
  refine allocB h1 (z := .agg zeroDc.cells.toArray) (by kernel_rfl) fun a3 w3 h2 => ?_
  have h2 : Sat W w3 (Blk a3 zeroDc.cells T_api_Batch :: OwnS elB s ds' :: l) := h2
  refine stAggB h2 (cs' := d.cells) rfl d.ones (by kernel_rfl) fun w4 h3 => ?_
  refine ldX h3 8 (x := d.vs) ?_
  have h4 := own_open hd h3.tail
  have h5 : Sat W w4 (All [Pure (d.ss.length = d.bs.length ∧ d.num), VsR d.vs d.ss d.bs] :: SlR T_api_Batch 9 s (elB.flat ds') :: All ((ds'.map elB.own).eraseIdx j) :: l) := h4
  obtain ⟨⟨hss, hnum⟩, h6⟩ := sat_pure.1 (sat_all.1 h5)
  refine fillV_ok (Kn := fun w => _) h6 hss fun bs' w5 hb' h7 => ?_
  have h8 : Sat W w5 (elB.own { d with bs := bs' } :: SlR elB.T elB.sz s (elB.flat ds') :: All ((ds'.map elB.own).eraseIdx j) :: l) := sat_all.2 (sat_pure.2 ⟨⟨by simp [hss, hb'], hnum⟩, h7⟩)
  have h9 := own_back hd (y := { d with bs := bs' }) rfl h8
  rw [w_i64 (n := (j : Int) + 1) (by omega) (by omega)]
  exact ⟨⟨j + 1, ds'.set j { d with bs := bs' }, by show (j : Int) + 1 = _; omega, by omega, by simp [hd'], h9⟩, by show ds.length - ((j : Int) + 1).toNat < ds.length - (j : Int).toNat; omega⟩
end
end Go.Proofs.YtbpcichakchpkaaGreatDoor
