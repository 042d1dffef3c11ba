/- Layer 2: the table of check sums. -/
import Derived.Test.YtnjadekngjgjcaaGreatDoorSB
import Derived.Test.YtnjadekngjgjcaaGreatDoorQK
import Derived.Test.YtnjadekngjgjcaaGreatDoorE3
import Derived.Test.YtnjadekngjgjcaaGreatDoorFSb
import Derived.Test.YtnjadekngjgjcaaGreatDoorFSd
namespace Go.Pk
open Go
/-- an element of an array that lies at an address -/
theorem ixArr {P : Program} {w : World} {t e : TypeId} {n : Nat} (ht : P.underlying t = some (.array n e)) (hsz : (P.info? e).map (·.size) = some 1) {a : Addr} {ik : IntKind} {i : Int} (h0 : 0 ≤ i) (h1 : i < n) {K : Addr → Prop} (hK : K (a.add i.toNat)) :
    RunQ .addr P (Instr.indexAt t (.pointer (some a)) (.int ik i)) w K := by
  obtain ⟨inf, hi, hs⟩ := Option.map_eq_some_iff.1 hsz
  refine ⟨_, ?_, hK⟩
  simp [Instr.indexAt, asIntOf, run_underlying ht, Sem.run_bind, Instr.sureAddr, sizeOf, typeInfo, program, Sem.run, hi, hs, h0, h1]
end Go.Pk
namespace Go.Proofs.YtnjadekngjgjcaaGreatDoor
open Go Go.Pk
theorem ifB_intro {t : Bool} {A B : Prop} (h1 : t = true → A) (h2 : t = false → B) : ifB t A B := by cases t; exact h2 rfl; exact h1 rfl
theorem ifB_dec {p : Prop} [Decidable p] {A B : Prop} (h1 : p → A) (h2 : ¬ p → B) : ifB (decide p) A B := by
  by_cases h : p
  · rw [decide_eq_true h]; exact h1 h
  · rw [decide_eq_false h]; exact h2 h
theorem ifB_beq {a b : Int} {A B : Prop} (h1 : a = b → A) (h2 : a ≠ b → B) : ifB (a == b) A B := by
  by_cases h : a = b
  · have : (a == b) = true := by simp [h]
    rw [this]; exact h1 h
  · have : (a == b) = false := by simp [h]
    rw [this]; exact h2 h
theorem ifB_bne {a b : Int} {A B : Prop} (h1 : a ≠ b → A) (h2 : a = b → B) : ifB (a != b) A B := by
  by_cases h : a = b
  · have : (a != b) = false := by simp [h]
    rw [this]; exact h2 h
  · have : (a != b) = true := by simp [h]
    rw [this]; exact h1 h
def vU (i : Nat) : Value := .int .u32 (tabE i).toNat
def tabL : List Value := (List.range 256).map vU
def tbC (f : Bool) : List Value := .int .u32 (if f then 1 else 0) :: .int .i32 0 :: .int .u32 0 :: (if f then tabL else List.replicate 256 (.int .u32 0))
/-- a table, filled or not yet -/
def TbR (t : Nat) : Res := Ex fun f : Bool => Blk t (tbC f) T_crc_Table
section
variable {W w : World} {l : List Res} {K : Value → World → Prop}
theorem cSteps_snoc : ∀ (n : Nat) (c : BitVec 32), cSteps (n + 1) c = cStep (cSteps n c)
  | 0, _ => rfl
  | n + 1, c => by rw [cSteps, cSteps_snoc n]; rfl
theorem cStep_int (x : BitVec 32) : (cStep x).toNat = if x.getLsbD 0 = true then ((x >>> 1) ^^^ poly).toNat else (x >>> 1).toNat := by
  unfold cStep; split <;> rfl
set_option maxRecDepth 20000 in
theorem fill_ok {t : Nat} {a b c : Value} {tb : List Value} (h : Sat W w (Blk t (a :: b :: c :: tb) T_crc_Table :: l)) (ht : tb.length = 256) (hK : ∀ w', Sat W w' (Blk t (a :: b :: c :: tabL) T_crc_Table :: l) → K (.tuple #[]) w') :
    CallP P F_crc_Table_fill [.pointer (some ⟨t, 0, none⟩)] w K := by
  apply c_crc_Table_fill
  unfold S_crc_Table_fill
  have hL : ∀ j, j ≤ 256 → (a :: b :: c :: (tabL.take j ++ tb.drop j)).length = 259 := fun j hj => by simp [tabL, ht]; omega
  refine ⟨fun z w' => ∃ j : Nat, z.1 = j ∧ j ≤ 256 ∧ Sat W w' (Blk t (a :: b :: c :: (tabL.take j ++ tb.drop j)) T_crc_Table :: l), fun z _ => 256 - z.1.toNat, ⟨0, rfl, by omega, by simpa using h⟩, ?_⟩
  rintro ⟨j', u⟩ w2 ⟨j, hj, hjl, h2⟩
  simp only at hj ⊢
  subst hj
  refine ifB_dec (fun hlt => ?_) fun hge => ?_
  · have hj2 : IntKind.u32.wrap (j : Int) = ((BitVec.ofNat 32 j).toNat : Int) := by
      have := w_u32b (BitVec.ofNat 32 j)
      have e : (BitVec.ofNat 32 j).toNat = j := by simp; omega
      rw [e] at this; rw [this, e]
    rw [hj2]
    refine ⟨fun z w' => ∃ (k : Nat) (x : BitVec 32), z.2.1 = k ∧ k ≤ 8 ∧ z.1 = x.toNat ∧ x = cSteps k (BitVec.ofNat 32 j) ∧ Sat W w' (Blk t (a :: b :: c :: (tabL.take j ++ tb.drop j)) T_crc_Table :: l), fun z _ => 8 - z.2.1.toNat, ⟨0, _, rfl, by omega, rfl, rfl, h2⟩, ?_⟩
    rintro ⟨x', k', u⟩ w5 ⟨k, x, hk, hkl, hx, hxs, h3⟩
    simp only at hk hx ⊢
    subst hk; subst hx
    refine ifB_dec (fun hk8 => ?_) fun hk8 => ?_
    · rw [bv_of, and_one]
      have hn : cStep x = cSteps (k + 1) (BitVec.ofNat 32 j) := by rw [cSteps_snoc, hxs]
      have e8 : IntKind.i64.wrap ((k : Int) + 1) = ((k + 1 : Nat) : Int) := by rw [w_i64 (by omega) (by omega)]; omega
      rw [fdiv_sh, bv_of, show BitVec.ofInt 32 2197175160 = poly by decide, w_u32b, e8]
      by_cases hb : x.getLsbD 0 = true
      · rw [if_pos hb]
        refine ifB_beq (fun _ => ?_) fun hne => absurd (by decide) hne
        refine ⟨⟨k + 1, cStep x, rfl, by omega, ?_, hn, h3⟩, by omega⟩
        show (((x >>> 1) ^^^ poly).toNat : Int) = _
        rw [cStep_int, if_pos hb]
      · rw [if_neg hb]
        refine ifB_beq (fun he => absurd he (by decide)) fun _ => ?_
        refine ⟨⟨k + 1, cStep x, rfl, by omega, ?_, hn, h3⟩, by omega⟩
        show ((x >>> 1).toNat : Int) = _
        rw [cStep_int, if_neg hb]
    · have hk9 : k = 8 := by omega
      subst hk9
      refine ixArr (n := 256) (e := T_uint32) (by kernel_rfl) (by kernel_rfl) (by omega) (by omega) ?_
      refine stX h3 (3 + j) (v := .int .u32 x.toNat) (fun w8 h4 => ?_) (hA := by simp [Addr.add]) (hi := by rw [hL j hjl]; omega)
      rw [w_i64 (n := (j : Int) + 1) (by omega) (by omega)]
      refine ⟨⟨j + 1, by omega, by omega, ?_⟩, by omega⟩
      have e : (a :: b :: c :: (tabL.take j ++ tb.drop j)).set (3 + j) (.int .u32 x.toNat) = a :: b :: c :: (tabL.take (j + 1) ++ tb.drop (j + 1)) := by
        rw [show 3 + j = j + 1 + 1 + 1 by omega]
        simp only [List.set_cons_succ]
        congr 3
        have h1 : (tabL.take j).length = j := by simp [tabL]; omega
        rw [List.set_append, if_neg (by omega), h1, Nat.sub_self]
        have h2 : tb.drop j = tb[j] :: tb.drop (j + 1) := List.drop_eq_getElem_cons (by omega)
        rw [h2, List.set_cons_zero]
        have h3 : tabL.take (j + 1) = tabL.take j ++ [.int .u32 x.toNat] := by
          rw [List.take_add_one]
          congr 1
          have : tabL[j]? = some (.int .u32 x.toNat) := by
            simp only [tabL, List.getElem?_map, List.getElem?_range (show j < 256 by omega), Option.map_some, vU, tabE, hxs]
          rw [this]; rfl
        rw [h3, List.append_assoc]; rfl
      rw [e] at h4
      exact h4
  · have : j = 256 := by omega
    subst this
    have e1 : tabL.take 256 = tabL := List.take_of_length_le (by simp [tabL])
    have e2 : tb.drop 256 = [] := List.drop_of_length_le (by omega)
    rw [e1, e2, List.append_nil] at h2
    exact hK w2 h2
theorem sat_tb {t : Nat} : Sat W w (TbR t :: l) ↔ ∃ f, Sat W w (Blk t (tbC f) T_crc_Table :: l) := sat_ex
theorem runN {s : Sem Next} {v : Value} {w' : World} {K : Value → World → Prop} (h : s.run P w = .ok (.value v) w') (hK : K v w') : RunN P s w K := ⟨v, w', h, hK⟩
theorem once_ok {t : Nat} (h : Sat W w (TbR t :: l)) (hK : ∀ w', Sat W w' (Blk t (tbC true) T_crc_Table :: l) → K (.tuple #[]) w') :
    CallP P F_sync_Once_Do [.pointer (some ⟨t, 0, none⟩), .func (.func F_crc_Table_fill) #[.pointer (some ⟨t, 0, none⟩)] #[]] w K := by
  apply c_sync_Once_Do
  unfold S_sync_Once_Do
  obtain ⟨f, h1⟩ := sat_tb.1 h
  have hl := run_call_load (P := Tryz.prog) Tryz.func202 (by kernel_rfl) (by kernel_rfl) (by kernel_rfl) .u32 (by kernel_rfl) (w := w) (a := ⟨t, 0, none⟩) (x := if f then 1 else 0) (h1.cell 0)
  have hld : CallP P F_sync_atomic_Bool_Load [.pointer (some (Addr.add ⟨t, 0, none⟩ 0))] w fun v w' => v = .bool f ∧ w' = w := by
    apply c_sync_atomic_Bool_Load
    unfold S_sync_atomic_Bool_Load
    refine runN hl (tyI (k := .int .u32) ?_)
    cases f <;> exact ⟨rfl, rfl⟩
  refine hld.mono ?_
  rintro e w1 ⟨v, he, rfl, rfl⟩
  refine ⟨_, he, tyI (k := .bool) ?_⟩
  cases f
  · refine (slow_ok (t := t) (cs := .int .u32 0 :: List.replicate 256 (.int .u32 0)) (cs' := .int .u32 0 :: tabL) h1 fun w' h2 => ?_).mono ?_
    · refine (fill_ok (K := fun v w2 => v = .tuple #[] ∧ Sat W w2 (Blk t (.int .u32 0 :: .int .i32 1 :: .int .u32 0 :: tabL) T_crc_Table :: l)) h2 List.length_replicate fun w2 h3 => ⟨rfl, h3⟩).mono ?_
      rintro e w2 ⟨v, he, rfl, h3⟩
      exact ⟨he, h3⟩
    · rintro e w2 ⟨he, h3⟩
      exact ⟨_, he, tupU rfl (hK w2 h3)⟩
  · exact hK w1 h1
theorem more_ok {t : Nat} {s : BitVec 32} {x : Sl} {b : List UInt8} (h : Sat W w (TbR t :: l)) (hx : Rd W l x 1 (b.map vB)) (hb : b.length < 4611686018427387904) (hK : ∀ w', Sat W w' (TbR t :: l) → K (.int .u32 (crcMore s b).toNat) w') :
    CallP P F_crc_Table_More [.pointer (some ⟨t, 0, none⟩), .int .u32 s.toNat, x.v] w K := by
  apply c_crc_Table_More
  unfold S_crc_Table_More
  rw [show Option.isNone (some (⟨t, 0, none⟩ : Addr)) = false from rfl]
  have hxl : x.len = b.length := by have := (hx w h.tail).1; simp at this; omega
  refine once_ok h fun w1 h1 => tupU rfl ?_
  rw [bv_of, ones_xor, w_u32b]
  refine ⟨fun z w' => ∃ (j : Nat) (c : BitVec 32), z.2.1 = j ∧ j ≤ b.length ∧ z.1 = c.toNat ∧ c = (b.take j).foldl crcByte (~~~ s) ∧ Sat W w' (Blk t (tbC true) T_crc_Table :: l), fun z _ => b.length - z.2.1.toNat, ⟨0, _, rfl, Nat.zero_le _, rfl, rfl, h1⟩, ?_⟩
  rintro ⟨c', j', u⟩ w2 ⟨j, c, hj, hjl, hc, hcs, h2⟩
  simp only at hj hc ⊢
  subst hj; subst hc
  refine ifB_dec (fun hlt => ?_) fun hge => ?_
  · have hj2 : j < b.length := by omega
    refine ixld et_bytes (hx _ h2.tail) (by omega) (k := .int .u8) (x := (b[j].toNat : Int)) (by simp [vB, hj2, Kd.v]) ?_
    rw [idx8, w_u8b]
    generalize hi : (BitVec.ofNat 8 c.toNat ^^^ b[j].toBitVec).toNat = i
    have hi2 : i < 256 := by rw [← hi]; exact (BitVec.ofNat 8 c.toNat ^^^ b[j].toBitVec).isLt
    refine ixArr (n := 256) (e := T_uint32) (by kernel_rfl) (by kernel_rfl) (by omega) (by omega) ?_
    refine ldX h2 (3 + i) (x := ((tabE i).toNat : Int)) ?_ (by
      rw [show 3 + i = i + 1 + 1 + 1 by omega]
      simp only [tbC, List.getElem?_cons_succ, if_true, tabL, List.getElem?_map, List.getElem?_range hi2, Option.map_some]
      rfl) (by simp [Addr.add])
    rw [bv_of, fdiv_sh, bv_of, w_u32b, w_i64 (n := (j : Int) + 1) (by omega) (by omega)]
    refine ⟨⟨j + 1, tabE i ^^^ (c >>> 8), by omega, by omega, rfl, ?_, h2⟩, by omega⟩
    rw [List.take_add_one, List.getElem?_eq_getElem hj2, List.foldl_append, ← hcs]
    show _ = crcByte c b[j]
    unfold crcByte
    rw [hi]
  · have hje : b.take j = b := List.take_of_length_le (by omega)
    rw [bv_of, ones_xor, w_u32b]
    rw [hje] at hcs
    have e : crcMore s b = ~~~ c := by rw [hcs]; rfl
    rw [e] at hK
    exact hK w2 (sat_tb.2 ⟨true, h2⟩)
theorem sum_ok {t : Nat} {x : Sl} {b : List UInt8} (h : Sat W w (TbR t :: l)) (hx : Rd W l x 1 (b.map vB)) (hb : b.length < 4611686018427387904) (hK : ∀ w', Sat W w' (TbR t :: l) → K (.int .u32 (crc b).toNat) w') :
    CallP P F_crc_Table_Sum [.pointer (some ⟨t, 0, none⟩), x.v] w K := by
  apply c_crc_Table_Sum
  unfold S_crc_Table_Sum
  refine more_ok (s := 0#32) h hx hb fun w1 h1 => tyI (k := .int .u32) (hK w1 h1)
set_option maxRecDepth 20000 in
theorem crcNew_ok (h : Sat W w l) (hK : ∀ t w', Sat W w' (TbR t :: l) → K (.pointer (some ⟨t, 0, none⟩)) w') : CallP P F_crc_New [] w K := by
  apply c_crc_New
  unfold S_crc_New
  refine boxB h fun t w1 h1 => ?_
  exact hK t w1 (sat_tb.2 ⟨false, h1⟩)
end
end Go.Proofs.YtnjadekngjgjcaaGreatDoor
