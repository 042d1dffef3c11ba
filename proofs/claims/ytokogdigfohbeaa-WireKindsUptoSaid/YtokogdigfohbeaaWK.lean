/- Layer 17: the reader: Raft's messages, commands. -/
import Derived.Test.YtokogdigfohbeaaWJ
import Derived.Test.YtokogdigfohbeaaW1
namespace Go.Proofs.Ytokogdigfohbeaa
open Go Go.Pk
def zRm : Rm := ⟨0, 0, 0, 0, 0, 0, 0, false, ⟨none, 0, 0⟩, [], ⟨none, 0, 0⟩, []⟩
def zCd : Cd := ⟨0, 0, 0, 0, 0, ⟨none, 0, 0⟩, []⟩
def hRm (a b c d e f g : Int) (r : Bool) : Rm := ⟨a, b, c, d, e, f, g, r, ⟨none, 0, 0⟩, [], ⟨none, 0, 0⟩, []⟩
section
variable {W w : World} {l : List Res} {K : Value → World → Prop} {X : PX} {b br a0 p : Nat} {e : Int} {t : List UInt8} {S : World → Prop}
theorem Cd.ones (x : Cd) : ∀ u ∈ x.cells, u.oneCell' = true := by
  intro u hu
  simp only [Cd.cells, List.mem_cons, List.not_mem_nil, or_false] at hu
  rcases hu with rfl | rfl | rfl | rfl | rfl | rfl <;> rfl
set_option maxHeartbeats 2000000 in
theorem xraft_ok (ht : t.length ≤ 140737488355328) (h : Sat W w (RdrR br t p e :: RwB b br :: l)) (hp : p ≤ t.length) (hX : (tkRaft t p e).2.2 ≠ 0 → Gx W l X)
    (hK : ∀ (r : Rm) w', (tkRaft t p e).1 = .raft r.ns r.rej (r.el.map En17.dat) r.snap → Sat W w' (OwnS elEn r.es r.el :: BsR r.ss r.snap :: RdrR br t (tkRaft t p e).2.1 (tkRaft t p e).2.2 :: RwB b br :: l) → K (.agg r.cells.toArray) w') :
    CallX P F_wire_reader_raft [.pointer (some ⟨b, 0, none⟩)] w K X := by
  apply c_wire_reader_raft
  unfold S_wire_reader_raft
  refine boxB h fun a0 w1 h1 => ?_
  have h1' : Sat W w1 (VrB a0 b :: RdrR br t p e :: RwB b br :: l) := h1
  refine allocB h1' (z := .agg zRm.cells.toArray) (by kernel_rfl) fun a2 w2 h2 => ?_
  have h2' : Sat W w2 (Blk a2 zRm.cells T_api_RMsg :: VrB a0 b :: RdrR br t p e :: RwB b br :: l) := h2
  have h3 : Sat W w2 (RdrR br t p e :: RwB b br :: VrB a0 b :: Blk a2 zRm.cells T_api_RMsg :: l) := ((h2'.up 1).up 3).up 3
  clear h2' h2 h1' h1 h
  refine ⟨fun z w' => ∃ n1 n2 n3 n4 n5 n6 n7 rej pa ea p1 e1 a, z = (⟨a, 0, none⟩, ()) ∧ Tk.rep takeI 7 t p e = ([n1, n2, n3, n4, n5, n6, n7], pa, ea) ∧ takeF t pa ea = (rej, p1, e1) ∧ p1 ≤ t.length ∧
    Sat W w' (RdrR br t p1 e1 :: RwB b br :: VrB a0 b :: Blk a (hRm n1 n2 n3 n4 n5 n6 n7 rej).cells T_api_RMsg :: Blk a2 zRm.cells T_api_RMsg :: l), ?_, ?_⟩
  · rintro _ w3 ⟨n1, n2, n3, n4, n5, n6, n7, rej, pa, ea, p1, e1, a, rfl, q1, q2, hp1, h4⟩
    have et : tkRaft t p e = (.raft [n1, n2, n3, n4, n5, n6, n7] rej (tkMany tkEn t p1 e1).1 (takeB t (tkMany tkEn t p1 e1).2.1 (tkMany tkEn t p1 e1).2.2).1, (takeB t (tkMany tkEn t p1 e1).2.1 (tkMany tkEn t p1 e1).2.2).2) := by
      simp only [tkRaft, Tk.map, Tk.dep, q1, q2]
    rw [et] at hX hK
    simp only at hX hK
    refine rPtr1 (h4.up 2) ?_
    refine xents_ok ht h4 hp1 (fun hne => (((hX ?_).cons).cons).cons) fun s xs w4 hx h5 => tyI ?_
    · rw [erB _ _ _ hne]; exact hne
    have hb5 := bdMany bdEn t p1 e1 hp1
    rw [← hx] at hK
    generalize (tkMany tkEn t p1 e1).2 = c at h5 hb5 hX hK
    obtain ⟨p5, e5⟩ := c
    simp only at h5 hb5 hX hK
    let r1 : Rm := ⟨n1, n2, n3, n4, n5, n6, n7, rej, s, xs, ⟨none, 0, 0⟩, []⟩
    have h5' := h5.up 4
    refine stB h5' (i := 8) (v := s.v) (hi := (by show 8 < 10; decide)) fun w5 h6 => ?_
    have h6' : Sat W w5 (Blk a r1.cells T_api_RMsg :: OwnS elEn s xs :: RdrR br t p5 e5 :: RwB b br :: VrB a0 b :: Blk a2 zRm.cells T_api_RMsg :: l) := h6
    refine rPtr1 (h6'.up 4) ?_
    refine rPtr2 (h6'.up 3) ?_
    refine xBytes ht (h6'.up 2) hb5 fun s2 w6 d p6 e6 q3 hp6 h7 => tyI ?_
    rw [q3] at hX hK
    simp only at hX hK
    let r2 : Rm := ⟨n1, n2, n3, n4, n5, n6, n7, rej, s, xs, s2, d⟩
    have h7' : Sat W w6 (Blk a r1.cells T_api_RMsg :: BsR s2 d :: RdrR br t p6 e6 :: OwnS elEn s xs :: RwB b br :: VrB a0 b :: Blk a2 zRm.cells T_api_RMsg :: l) := h7.up 2
    refine stB h7' (i := 9) (v := s2.v) (hi := (by show 9 < 10; decide)) fun w7 h8 => ?_
    have h8' : Sat W w7 (Blk a r2.cells T_api_RMsg :: BsR s2 d :: RdrR br t p6 e6 :: OwnS elEn s xs :: RwB b br :: VrB a0 b :: Blk a2 zRm.cells T_api_RMsg :: l) := h8
    refine ldAggB h8' (by kernel_rfl) ?_
    have h9 := h8'.up 6
    refine stAggB (cs := zRm.cells) (cs' := r2.cells) h9 rfl (Rm.ones _) (by kernel_rfl) fun w8 h10 => ?_
    refine ldAggB h10 (by kernel_rfl) (hK r2 w8 rfl ?_)
    have h11 : Sat W w8 (BsR s2 d :: RdrR br t p6 e6 :: OwnS elEn s xs :: RwB b br :: VrB a0 b :: l) := h10.tail.tail
    exact (h11.cut 4).up 2
  · have hS1 : ∀ w, (∃ p e l', Sat W w (RdrR br t p e :: RwB b br :: VrB a0 b :: l')) → ∃ l', Sat W w (VrB a0 b :: l') := fun w ⟨_, _, _, hw⟩ => ⟨_, hw.up 2⟩
    have hS2 : ∀ w, (∃ p e l', Sat W w (RdrR br t p e :: RwB b br :: VrB a0 b :: l')) → ∃ l', Sat W w (RwB b br :: l') := fun w ⟨_, _, _, hw⟩ => ⟨_, hw.up 1⟩
    have hal : ∀ {w : World} {p : Nat} {e : Int} {L : List Res} {K : Addr → World → Prop}, Sat W w (RdrR br t p e :: RwB b br :: VrB a0 b :: L) → (∀ g w', Sat W w' (RdrR br t p e :: RwB b br :: VrB a0 b :: Blk g zRm.cells T_api_RMsg :: L) → K ⟨g, 0, none⟩ w') → RunK .addr P (Instr.alloc T_api_RMsg true (.tuple #[])) w K :=
      fun h hK => allocB h (z := .agg zRm.cells.toArray) (by kernel_rfl) fun g w' h' => hK g w' (((h'.up 3).up 3).up 3)
    have hst : ∀ {w : World} {p g : Nat} {e : Int} {L : List Res} {K : World → Prop} {n1 n2 n3 n4 n5 n6 n7 : Int} {r : Bool}, Sat W w (RdrR br t p e :: RwB b br :: VrB a0 b :: Blk g zRm.cells T_api_RMsg :: L) → (∀ w', Sat W w' (RdrR br t p e :: RwB b br :: VrB a0 b :: Blk g (hRm n1 n2 n3 n4 n5 n6 n7 r).cells T_api_RMsg :: L) → K w') →
        StoreP P T_api_RMsg (.pointer (some ⟨g, 0, none⟩)) (.agg #[(.int .i64 n1), (.int .i64 n2), (.int .i64 n3), (.int .i64 n4), (.int .i64 n5), (.int .i64 n6), (.int .i64 n7), (.bool r), (.slice none 0 0), (.slice none 0 0)]) w K :=
      fun {w p g e L K n1 n2 n3 n4 n5 n6 n7 r} h hK => stAggB (cs := zRm.cells) (cs' := (hRm n1 n2 n3 n4 n5 n6 n7 r).cells) (h.up 3) rfl (Rm.ones _) (by kernel_rfl) fun w' h' => hK w' (((h'.up 3).up 3).up 3)
    have fin : ∀ {w' : World} {n1 n2 n3 n4 n5 n6 n7 : Int} {rej : Bool} {pa : Nat} {ea : Int} {p1 : Nat} {e1 : Int} {a : Nat}, takeF t pa ea = (rej, p1, e1) → Tk.rep takeI 7 t p e = ([n1, n2, n3, n4, n5, n6, n7], pa, ea) → p1 ≤ t.length →
        Sat W w' (RdrR br t p1 e1 :: RwB b br :: VrB a0 b :: Blk a (hRm n1 n2 n3 n4 n5 n6 n7 rej).cells T_api_RMsg :: Blk a2 zRm.cells T_api_RMsg :: l) →
        ∃ n1 n2 n3 n4 n5 n6 n7 rej pa ea p1 e1 a', ((⟨a, 0, none⟩ : Addr), ()) = (⟨a', 0, none⟩, ()) ∧ Tk.rep takeI 7 t p e = ([n1, n2, n3, n4, n5, n6, n7], pa, ea) ∧ takeF t pa ea = (rej, p1, e1) ∧ p1 ≤ t.length ∧
          Sat W w' (RdrR br t p1 e1 :: RwB b br :: VrB a0 b :: Blk a' (hRm n1 n2 n3 n4 n5 n6 n7 rej).cells T_api_RMsg :: Blk a2 zRm.cells T_api_RMsg :: l) :=
      fun q1 q2 hp h => ⟨_, _, _, _, _, _, _, _, _, _, _, _, _, rfl, q2, q1, hp, h⟩
    have h := h3.drew
    clear h3 hK hX
    refine ⟨fun w => ∃ p e l', Sat W w (RdrR br t p e :: RwB b br :: VrB a0 b :: l'), ⟨_, _, _, h⟩, ?_⟩
    iterate 8
      refine hPtr1 hS1 ?_
      refine hPtr2 hS2 ?_
    repeat' first
      | refine ⟨?_, ?_, trivial⟩
      | refine xInt ht h hp fun w n p e q hp h => tyI ⟨⟨_, _, _, h⟩, ?_⟩
      | refine xFlag ht h hp fun w n p e q hp h => tyI ⟨⟨_, _, _, h⟩, ?_⟩
      | refine hal h fun g w h => ⟨⟨_, _, _, h⟩, ?_⟩
      | refine hst h fun w h => ⟨⟨_, _, _, h⟩, ?_⟩
    all_goals exact fin (by assumption) (by simp only [Tk.rep, *]) hp h
theorem idecode_ok {x : Sl} (h : Sat W w l) (hx : Rd W l x 1 (t.map vB)) (ht : t.length ≤ 140737488355328)
    (hK : ∀ (c : Cd) w', (cdTE t = 0 → c.d = (tkCd0 t 0 0).1) → Sat W w' (IsR c.ls c.li :: l) → K (.tuple #[.agg c.cells.toArray, .int .i64 (cdTE t)]) w') : CallP P F_image_Decode [x.v] w K := by
  apply c_image_Decode
  unfold S_image_Decode
  refine allocB h (z := .agg zCd.cells.toArray) (by kernel_rfl) fun g w1 h1 => ?_
  have h1' : Sat W w1 (Blk g zCd.cells T_api_Cmd :: l) := h1
  have bad : cdTE t ≠ 0 → ∀ w', Sat W w' (Blk g zCd.cells T_api_Cmd :: l) → StoreP P T_api_Cmd (.pointer (some ⟨g, 0, none⟩)) (.agg zCd.cells.toArray) w' fun w29 =>
      LoadK .val P T_api_Cmd (.pointer (some ⟨g, 0, none⟩)) w29 fun (v30 : Value) => K (.tuple #[v30, (.int .i64 (cdTE t))]) w29 := fun hne w' h' => by
    refine stAggB (cs := zCd.cells) (cs' := zCd.cells) h' rfl (Cd.ones _) (by kernel_rfl) fun w2 h2 => ?_
    exact ldAggB h2 (by kernel_rfl) (hK zCd w2 (fun h0 => absurd h0 hne) (Sat.nilSlr h2.tail T_int 1))
  refine newReader_ok h1' hx.cons ht fun br w2 h2 => tyI ?_
  have up : ∀ {f : FuncId} {args : List Value} {w : World} {K : Value → World → Prop}, CallX P f args w K (fun _ _ => False) → CallP P f args w K := fun h =>
    Calls.mono h fun _ _ he => he.elim id fun ⟨_, _, hf⟩ => hf.elim
  refine up (xInt ht h2 (Nat.zero_le _) fun w3 n1 p1 e1 q1 hp1 h3 => tyI ?_)
  refine up (xInt ht h3 hp1 fun w4 n2 p2 e2 q2 hp2 h4 => tyI ?_)
  refine up (xInt ht h4 hp2 fun w5 n3 p3 e3 q3 hp3 h5 => tyI ?_)
  refine up (xInt ht h5 hp3 fun w6 n4 p4 e4 q4 hp4 h6 => tyI ?_)
  refine up (xInt ht h6 hp4 fun w7 n5 p5 e5 q5 hp5 h7 => tyI ?_)
  refine up (xInts ht h7 hp5 fun s w8 ns p6 e6 q6 hp6 h8 => tyI ?_)
  have eq : tkCd0 t 0 0 = (([n1, n2, n3, n4, n5], ns), p6, e6) := by
    simp only [tkCd0, Tk.dep, Tk.rep, q1, q2, q3, q4, q5, q6]
  let c : Cd := ⟨n1, n2, n3, n4, n5, s, ns⟩
  have hT : cdTE t = if endE t p6 e6 ≠ 0 then endE t p6 e6 else cdE c := by
    unfold cdTE
    rw [eq]
    rfl
  rw [hT] at bad
  refine newAgg (z := zCd.cells) (cs := c.cells) h8 (Cd.ones _) fun g2 w9 h9 => ?_
  have hl : c.li.length = c.ls.len := (Sat.isLen h8).1
  refine dEnd_ok (h9.up 2) fun w10 h10 => tyI ?_
  have h10' : Sat W w10 (Blk g2 c.cells T_api_Cmd :: RdrR br t p6 e6 :: IsR s ns :: Blk g zCd.cells T_api_Cmd :: l) := h10.up 1
  have h11 : Sat W w10 (Blk g zCd.cells T_api_Cmd :: l) := h10'.tail.tail.tail
  have bad1 : endE t p6 e6 = 0 → (c.k < 1 ∨ c.k > 5 ∨ c.li.length > 5) → StoreP P T_api_Cmd (.pointer (some ⟨g, 0, none⟩)) (.agg zCd.cells.toArray) w10 fun w29 =>
      LoadK .val P T_api_Cmd (.pointer (some ⟨g, 0, none⟩)) w29 fun (v30 : Value) => K (.tuple #[v30, (.int .i64 1)]) w29 := fun h0 hb => by
    have e1 : cdE c = 1 := by unfold cdE; rw [if_pos hb]
    rw [h0, if_neg (by decide), e1] at bad
    exact bad (by decide) _ h11
  refine ifB_bne (fun hne => ?_) fun he => ?_
  · have hne' : endE t p6 e6 ≠ 0 := hne
    rw [if_pos hne'] at bad
    exact bad hne' _ h11
  · have he' : endE t p6 e6 = 0 := he
    refine ldB h10' (o := 0) (i := 0) (x := c.k) ?_
    refine ifB_dec (fun hb => bad1 he' (.inl hb)) fun hb1 => ?_
    refine ldB h10' (o := 0) (i := 0) (x := c.k) ?_
    refine ifB_dec (fun hb => bad1 he' (.inr (.inl hb))) fun hb2 => ?_
    refine ldB h10' (o := 0) (i := 5) (x := c.ls) ?_
    refine ifB_dec (fun hb => bad1 he' (.inr (.inr (by omega)))) fun hb3 => ?_
    have e0 : cdTE t = 0 := by
      rw [hT, he', if_neg (by decide)]
      unfold cdE
      rw [if_neg (by omega)]
    refine ldAggB h10' (by kernel_rfl) ?_
    have h12 : Sat W w10 (Blk g zCd.cells T_api_Cmd :: IsR s ns :: l) := (h10'.tail.tail).swap
    refine stAggB (cs := zCd.cells) (cs' := c.cells) h12 rfl (Cd.ones _) (by kernel_rfl) fun w11 h13 => ?_
    have := hK c w11 (fun _ => by rw [eq]; rfl) h13.tail
    rw [e0] at this
    exact ldAggB h13 (by kernel_rfl) this
end
end Go.Proofs.Ytokogdigfohbeaa
