/- Layer 17: the reader: batches, entries, lists of them. -/
import Derived.Test.YtokogdigfohbeaaWI
namespace Go.Proofs.Ytokogdigfohbeaa
open Go Go.Pk
section
variable {W w : World} {l : List Res} {K : Value → World → Prop} {X : PX} {b br a0 p : Nat} {e : Int} {t : List UInt8} {S : World → Prop}
/-- where the closure finds the reader -/
abbrev VrB (a0 b : Nat) : Res := Blk a0 [.pointer (some ⟨b, 0, none⟩)] T_p_wire_reader
theorem hPtr1 (hS : ∀ w, S w → ∃ l, Sat W w (VrB a0 b :: l)) {K : Option Addr → Prop} (hK : K (some ⟨b, 0, none⟩)) : HRun S .ptr P (Instr.loadAt T_p_wire_reader (.pointer (some ⟨a0, 0, none⟩))) K :=
  hldX hS 0 (x := some ⟨b, 0, none⟩) hK
theorem hPtr2 (hS : ∀ w, S w → ∃ l, Sat W w (RwB b br :: l)) {K : Option Addr → Prop} (hK : K (some ⟨br, 0, none⟩)) : HRun S .ptr P (Instr.loadAt T_p_codec_Reader (.pointer (some ((⟨b, 0, none⟩ : Addr).add 0)))) K :=
  hldB (o := 0) (i := 0) hS (x := some ⟨br, 0, none⟩) hK
theorem rPtr1 (h : Sat W w (VrB a0 b :: l)) {K : Option Addr → Prop} (hK : K (some ⟨b, 0, none⟩)) : RunQ .ptr P (Instr.loadAt T_p_wire_reader (.pointer (some ⟨a0, 0, none⟩))) w K :=
  ldX h 0 (x := some ⟨b, 0, none⟩) hK
theorem rPtr2 (h : Sat W w (RwB b br :: l)) {K : Option Addr → Prop} (hK : K (some ⟨br, 0, none⟩)) : RunQ .ptr P (Instr.loadAt T_p_codec_Reader (.pointer (some ((⟨b, 0, none⟩ : Addr).add 0)))) w K :=
  ldB h (i := 0) (x := some ⟨br, 0, none⟩) hK
theorem xInt (ht : t.length ≤ 140737488355328) (h : Sat W w (RdrR br t p e :: l)) (hp : p ≤ t.length)
    (hK : ∀ w' n p' e', takeI t p e = (n, p', e') → p' ≤ t.length → Sat W w' (RdrR br t p' e' :: l) → K (.int .i64 n) w') : CallX P F_codec_Reader_Int [.pointer (some ⟨br, 0, none⟩)] w K X :=
  callX (dInt_ok h hp ht fun w' h' => hK w' _ _ _ rfl (bdI _ _ _ hp) h')
theorem xUint (ht : t.length ≤ 140737488355328) (h : Sat W w (RdrR br t p e :: l)) (hp : p ≤ t.length)
    (hK : ∀ w' n p' e', takeU t p e = (n, p', e') → n < 2 ^ 64 → p' ≤ t.length → Sat W w' (RdrR br t p' e' :: l) → K (.int .u64 (n : Int)) w') : CallX P F_codec_Reader_Uint [.pointer (some ⟨br, 0, none⟩)] w K X :=
  callX (dUint_ok h hp ht fun w' h' => hK w' _ _ _ rfl (takeU_bound hp).1 (bdU _ _ _ hp) h')
theorem xFlag (ht : t.length ≤ 140737488355328) (h : Sat W w (RdrR br t p e :: l)) (hp : p ≤ t.length)
    (hK : ∀ w' n p' e', takeF t p e = (n, p', e') → p' ≤ t.length → Sat W w' (RdrR br t p' e' :: l) → K (.bool n) w') : CallX P F_codec_Reader_Flag [.pointer (some ⟨br, 0, none⟩)] w K X :=
  callX (dFlag_ok h hp ht fun w' h' => hK w' _ _ _ rfl (bdF _ _ _ hp) h')
theorem xBytes (ht : t.length ≤ 140737488355328) (h : Sat W w (RdrR br t p e :: l)) (hp : p ≤ t.length)
    (hK : ∀ s w' n p' e', takeB t p e = (n, p', e') → p' ≤ t.length → Sat W w' (BsR s n :: RdrR br t p' e' :: l) → K s.v w') : CallX P F_codec_Reader_Bytes [.pointer (some ⟨br, 0, none⟩)] w K X :=
  callX (dBytes_ok h hp ht fun s w' h' => hK s w' _ _ _ rfl (bdB _ _ _ hp) h')
theorem xInts (ht : t.length ≤ 140737488355328) (h : Sat W w (RdrR br t p e :: l)) (hp : p ≤ t.length)
    (hK : ∀ s w' n p' e', takeL t p e = (n, p', e') → p' ≤ t.length → Sat W w' (IsR s n :: RdrR br t p' e' :: l) → K s.v w') : CallX P F_codec_Reader_Ints [.pointer (some ⟨br, 0, none⟩)] w K X :=
  callX (dInts_ok h hp ht fun s w' h' => hK s w' _ _ _ rfl (bdL _ _ _ hp) h')
theorem takeB_small {t : List UInt8} {p : Nat} {e : Int} : (takeB t p e).1.length ≤ 4096 := by
  simp only [takeB]
  repeat' split
  all_goals simp
  omega
theorem own_zero (h : Sat W w l) : Sat W w (elDc.own zeroDc :: l) := sat_all.2 (sat_pure.2 ⟨rfl, sat_nilVs h⟩)
theorem sat_ownDc {d : Dc} : Sat W w (elDc.own d :: l) ↔ d.ss.length = d.bs.length ∧ Sat W w (VsR d.vs d.ss d.bs :: l) := by
  constructor
  · intro h
    exact sat_pure.1 (sat_all.1 h)
  · rintro ⟨h1, h2⟩
    exact sat_all.2 (sat_pure.2 ⟨h1, h2⟩)
theorem xbatch_ok (ht : t.length ≤ 140737488355328) (h : Sat W w (RdrR br t p e :: RwB b br :: l)) (hp : p ≤ t.length) (hX : (tkBt t p e).2.2 ≠ 0 → Gx W l X)
    (hK : ∀ d w', d.bare = (tkBt t p e).1 → Sat W w' (elDc.own d :: RdrR br t (tkBt t p e).2.1 (tkBt t p e).2.2 :: RwB b br :: l) → K (.agg d.cells.toArray) w') :
    CallX P F_wire_reader_batch [.pointer (some ⟨b, 0, none⟩)] w K X := by
  apply c_wire_reader_batch
  unfold S_wire_reader_batch
  simp only [nilCk]
  refine allocB h (z := .agg zeroDc.cells.toArray) (by kernel_rfl) fun g w1 h1 => ?_
  have h1' : Sat W w1 (RdrR br t p e :: Blk g zeroDc.cells T_api_Batch :: RwB b br :: l) := h1.swap
  refine rPtr2 (h1'.up 2) ?_
  have e1 : (tkBt t p e).1 = btD (takeB t p e).1 := rfl
  have e2 : (tkBt t p e).2.1 = (takeB t p e).2.1 := rfl
  have e3 : (tkBt t p e).2.2 = or0 (takeB t p e).2.2 (btE (takeB t p e).1) := rfl
  rw [e3] at hX
  rw [e1, e2, e3] at hK
  have hsm := takeB_small (t := t) (p := p) (e := e)
  refine xBytes ht h1' hp fun s w2 n p' e' q hp' h2 => tyI ?_
  rw [q] at hX hK hsm
  simp only at hX hK hsm
  clear e1 e2 e3 q
  have hl := Sat.bsLen h2
  refine ifB_beq (fun h0 => ?_) fun h0 => ?_
  · have hn : n = [] := List.eq_nil_of_length_eq_zero (by omega)
    subst hn
    refine stAggB (cs := zeroDc.cells) (cs' := zeroDc.cells) (h2.up 2) rfl (Dc.ones _) (by kernel_rfl) fun w3 h3 => ?_
    have h3' : Sat W w3 (Blk g zeroDc.cells T_api_Batch :: BsR s [] :: RdrR br t p' e' :: RwB b br :: l) := h3
    have := hK zeroDc w3 (by rw [btD_nil]; rfl)
    rw [btE_nil, or0_r] at this
    exact ldAggB h3' (by kernel_rfl) (this (own_zero h3'.tail.tail))
  · have hn : n ≠ [] := fun hn => h0 (by rw [hn] at hl; simp at hl; omega)
    rw [btE_ne hn] at hX hK
    rw [btD_ne hn] at hK
    refine callX (decode_all h2 Rd.own (by omega) fun vs ss w3 hss h3 => tup2v ?_)
    refine newDc h3 _ fun g2 w4 h4 => ?_
    refine ifB_bne (fun hne => ?_) fun he => ?_
    · have h5 : Sat W w4 (RdrR br t p' e' :: RwB b br :: l) := (((h4.tail).tail.tail).cut 1)
      refine xfail_ok h5 hp' (fun _ => hne) (hX ?_)
      unfold or0
      split
      · exact hne
      · assumption
    · have he' : decE n = 0 := he
      rw [he', or0_r] at hK
      have e5 : rD n = decD n := by unfold rD; rw [if_pos he']
      refine ldAggB h4 (by kernel_rfl) ?_
      have h5 : Sat W w4 (Blk g zeroDc.cells T_api_Batch :: VsR vs ss (rD n).bs :: RdrR br t p' e' :: RwB b br :: l) := (((h4.tail).cut 1).up 2)
      refine stAggB (cs := zeroDc.cells) (cs' := (rV n vs ss).cells) h5 rfl (Dc.ones _) (by kernel_rfl) fun w5 h6 => ?_
      refine ldAggB h6 (by kernel_rfl) ?_
      refine hK (rV n vs ss) w5 ?_ (sat_ownDc.2 ⟨hss, h6.tail⟩)
      have e6 : (rV n vs ss).bare = (rD n).bare := rfl
      rw [e6, e5, decD_bare]
theorem xbatches_ok (ht : t.length ≤ 140737488355328) (h : Sat W w (RdrR br t p e :: RwB b br :: l)) (hp : p ≤ t.length) (hX : (tkMany tkBt t p e).2.2 ≠ 0 → Gx W l X)
    (hK : ∀ s xs w', xs.map Dc.bare = (tkMany tkBt t p e).1 → Sat W w' (OwnS elDc s xs :: RdrR br t (tkMany tkBt t p e).2.1 (tkMany tkBt t p e).2.2 :: RwB b br :: l) → K s.v w') :
    CallX P F_wire_reader_batches [.pointer (some ⟨b, 0, none⟩)] w K X := by
  apply c_wire_reader_batches
  unfold S_wire_reader_batches
  apply c_wire_many_api_Batch
  unfold S_wire_many_api_Batch
  refine many_gen (K := fun v w1 => TyP .sl v fun (s2 : Sl) => K s2.v w1) elDc tkBt Dc.bare et_batches (by decide) (by decide) erBt bdBt (fun x w => by kernel_rfl)
    (fun h' hp' hX' hK' => dynX (by kernel_rfl) (xbatch_ok ht h' hp' hX' hK')) h hp ht hX fun s xs w' h1 h2 => tyI (hK s xs w' h1 h2)
theorem xraft1_ok {R : Res} (ht : t.length ≤ 140737488355328) (h : Sat W w (RdrR br t p e :: RwB b br :: R :: VrB a0 b :: l)) (hp : p ≤ t.length)
    (hK : ∀ x w', En17.dat x = (tkEn t p e).1 → Sat W w' (elEn.own x :: RdrR br t (tkEn t p e).2.1 (tkEn t p e).2.2 :: RwB b br :: R :: VrB a0 b :: l) → K (.agg x.cells.toArray) w') :
    CallX P F_wire_reader_raft_1 [.pointer (some ⟨a0, 0, none⟩)] w K X := by
  apply c_wire_reader_raft_1
  unfold S_wire_reader_raft_1
  simp only [nilCk]
  refine allocB h (z := .agg #[.int .i64 0, .slice none 0 0]) (by kernel_rfl) fun g w1 h1 => ?_
  refine ⟨fun w => ∃ l', Sat W w (RwB b br :: VrB a0 b :: l'), ⟨_, ((h1.drew.up 4).up 3)⟩, ?_⟩
  have hS1 : ∀ w, (∃ l', Sat W w (RwB b br :: VrB a0 b :: l')) → ∃ l', Sat W w (VrB a0 b :: l') := fun w hw => ⟨_, hw.choose_spec.up 1⟩
  have hS2 : ∀ w, (∃ l', Sat W w (RwB b br :: VrB a0 b :: l')) → ∃ l', Sat W w (RwB b br :: l') := fun w hw => ⟨_, hw.choose_spec⟩
  refine hPtr1 hS1 ?_
  refine hPtr2 hS2 ?_
  refine hPtr1 hS1 ?_
  refine hPtr2 hS2 ?_
  refine xInt ht h1.drew.swap hp fun w2 n p1 e1 q1 hp1 h2 => tyI ⟨⟨_, ((h2.up 4).up 3)⟩, ?_⟩
  refine xBytes ht h2 hp1 fun s w3 d p2 e2 q2 hp2 h3 => tyI ⟨⟨_, ((h3.up 5).up 4)⟩, ?_⟩
  have h3' : Sat W w3 (Blk g [.int .i64 0, .slice none 0 0] T_api_Entry :: BsR s d :: RdrR br t p2 e2 :: RwB b br :: R :: VrB a0 b :: l) := h3.up 2
  have eq : tkEn t p e = ((n, d), p2, e2) := by
    simp only [tkEn, Tk.dep, q1, q2]
  rw [eq] at hK
  let x : En17 := ⟨n, s, d⟩
  refine stAggB (cs := [.int .i64 0, .slice none 0 0]) (cs' := x.cells) h3' rfl (elEn.one x) (by kernel_rfl) fun w4 h4 => ⟨⟨_, (h4.up 5).up 4⟩, ?_⟩
  exact ldAggB h4 (by kernel_rfl) (hK x w4 rfl h4.tail)
theorem xclient1_ok {R : Res} (ht : t.length ≤ 140737488355328) (h : Sat W w (RdrR br t p e :: RwB b br :: R :: VrB a0 b :: l)) (hp : p ≤ t.length)
    (hK : ∀ x w', Ab.dat x = (tkAb t p e).1 → Sat W w' (elAb.own x :: RdrR br t (tkAb t p e).2.1 (tkAb t p e).2.2 :: RwB b br :: R :: VrB a0 b :: l) → K (.agg x.cells.toArray) w') :
    CallX P F_wire_reader_client_1 [.pointer (some ⟨a0, 0, none⟩)] w K X := by
  apply c_wire_reader_client_1
  unfold S_wire_reader_client_1
  simp only [nilCk]
  refine allocB h (z := .agg #[.int .u64 0, .int .i64 0, .int .i64 0]) (by kernel_rfl) fun g w1 h1 => ?_
  refine ⟨fun w => ∃ l', Sat W w (RwB b br :: VrB a0 b :: l'), ⟨_, ((h1.drew.up 4).up 3)⟩, ?_⟩
  have hS1 : ∀ w, (∃ l', Sat W w (RwB b br :: VrB a0 b :: l')) → ∃ l', Sat W w (VrB a0 b :: l') := fun w hw => ⟨_, hw.choose_spec.up 1⟩
  have hS2 : ∀ w, (∃ l', Sat W w (RwB b br :: VrB a0 b :: l')) → ∃ l', Sat W w (RwB b br :: l') := fun w hw => ⟨_, hw.choose_spec⟩
  refine hPtr1 hS1 ?_
  refine hPtr2 hS2 ?_
  refine hPtr1 hS1 ?_
  refine hPtr2 hS2 ?_
  refine hPtr1 hS1 ?_
  refine hPtr2 hS2 ?_
  refine xUint ht h1.drew.swap hp fun w2 n p1 e1 q1 hn hp1 h2 => tyI ⟨⟨_, ((h2.up 4).up 3)⟩, ?_⟩
  refine xInt ht h2 hp1 fun w3 n2 p2 e2 q2 hp2 h3 => tyI ⟨⟨_, ((h3.up 4).up 3)⟩, ?_⟩
  refine xInt ht h3 hp2 fun w4 n3 p3 e3 q3 hp3 h4 => tyI ⟨⟨_, ((h4.up 4).up 3)⟩, ?_⟩
  have h4' : Sat W w4 (Blk g [.int .u64 0, .int .i64 0, .int .i64 0] T_api_Abort :: RdrR br t p3 e3 :: RwB b br :: R :: VrB a0 b :: l) := h4.swap
  have eq : tkAb t p e = ((n, n2, n3), p3, e3) := by
    simp only [tkAb, Tk.dep, q1, q2, q3]
  rw [eq] at hK
  let x : Ab := ⟨n, n2, n3, by omega⟩
  refine stAggB (cs := [.int .u64 0, .int .i64 0, .int .i64 0]) (cs' := x.cells) h4' rfl (elAb.one x) (by kernel_rfl) fun w5 h5 => ⟨⟨_, (h5.up 4).up 3⟩, ?_⟩
  exact ldAggB h5 (by kernel_rfl) (hK x w5 (by show (((n : Int)).toNat, n2, n3) = (n, n2, n3); simp) (sat_pure.2 ⟨trivial, h5.tail⟩))
theorem xents_ok (ht : t.length ≤ 140737488355328) (h : Sat W w (RdrR br t p e :: RwB b br :: VrB a0 b :: l)) (hp : p ≤ t.length) (hX : (tkMany tkEn t p e).2.2 ≠ 0 → Gx W (VrB a0 b :: l) X)
    (hK : ∀ s xs w', xs.map En17.dat = (tkMany tkEn t p e).1 → Sat W w' (OwnS elEn s xs :: RdrR br t (tkMany tkEn t p e).2.1 (tkMany tkEn t p e).2.2 :: RwB b br :: VrB a0 b :: l) → K s.v w') :
    CallX P F_wire_many_api_Entry [.pointer (some ⟨b, 0, none⟩), .func (.func F_wire_reader_raft_1) #[] #[.pointer (some ⟨a0, 0, none⟩)]] w K X := by
  apply c_wire_many_api_Entry
  unfold S_wire_many_api_Entry
  exact many_gen elEn tkEn En17.dat et_ents (by decide) (by decide) erEn bdEn (fun x w => by kernel_rfl)
    (fun h' hp' hX' hK' => dynX (by kernel_rfl) (xraft1_ok ht h' hp' hK')) h hp ht hX hK
theorem xabs_ok (ht : t.length ≤ 140737488355328) (h : Sat W w (RdrR br t p e :: RwB b br :: VrB a0 b :: l)) (hp : p ≤ t.length) (hX : (tkMany tkAb t p e).2.2 ≠ 0 → Gx W (VrB a0 b :: l) X)
    (hK : ∀ s xs w', xs.map Ab.dat = (tkMany tkAb t p e).1 → Sat W w' (OwnS elAb s xs :: RdrR br t (tkMany tkAb t p e).2.1 (tkMany tkAb t p e).2.2 :: RwB b br :: VrB a0 b :: l) → K s.v w') :
    CallX P F_wire_many_api_Abort [.pointer (some ⟨b, 0, none⟩), .func (.func F_wire_reader_client_1) #[] #[.pointer (some ⟨a0, 0, none⟩)]] w K X := by
  apply c_wire_many_api_Abort
  unfold S_wire_many_api_Abort
  exact many_gen elAb tkAb Ab.dat et_aborts (by decide) (by decide) erAb bdAb (fun x w => by kernel_rfl)
    (fun h' hp' hX' hK' => dynX (by kernel_rfl) (xclient1_ok ht h' hp' hK')) h hp ht hX hK
end
end Go.Proofs.Ytokogdigfohbeaa
