/- Layer 19: the law's server. -/
import Derived.Test.YtajhdjjmhfbhgaaKVf
import Derived.Test.YtajhdjjmhfbhgaaFKf
namespace Go.Proofs.Ytajhdjjmhfbhgaa
open Go Go.Pk
structure Sv where
  os : Sl
  ep : Int
  cm : Bool
  a0 : Bool
  at_ : Int
  ins : Int
  fin : Bool
def Sv.cells (s : Sv) : List Value := [s.os.v, .int .u64 7, .int .i64 s.ep, .bool s.cm, .int .i64 0, .int .i64 0, .bool s.a0, .bool false, .int .i64 s.at_, .int .i64 s.ins, .bool s.fin]
@[simp] theorem Sv.clen (s : Sv) : s.cells.length = 11 := rfl
@[simp] theorem Aq.clen (a : Aq) (vs : Sl) : (a.cells vs).length = 59 := rfl
/-- an answer, ahead of what it tells -/
def re0 (a : Aq) : Aq := { zAq with kind := 15, corr := a.corr, tx := a.tx, inc := a.inc }
def nsl : Sl := ⟨none, 0, 0⟩
theorem arr2_bool (g : Nat) (w : World) : (Instr.indexAt T_2_bool (.pointer (some (⟨g, 6, none⟩ : Addr))) (.int .i64 0)).run P w = .ok (.pointer (some (⟨g, 6, none⟩ : Addr))) w := by kernel_rfl
theorem tup2vb {v : Value} {e : Bool} {K : Value × Bool × Unit → Prop} (h : K (v, e, ())) : TupP [.val, .bool] (.tuple #[v, .bool e]) K := ⟨_, rfl, h⟩
theorem rpC_of (a : Aq) (vs : Sl) : RpC (a.cells vs) ⟨a.kind, a.corr, 0, a.offset, a.inc, a.pid, a.epoch, a.commit, a.gen, ⟨none, 0, 0⟩, [], ⟨none, 0, 0⟩, [], ⟨none, 0, 0⟩, [], 0⟩ := ⟨rfl, rfl, rfl, rfl, rfl, rfl, rfl, rfl, rfl, rfl, rfl, rfl, rfl, rfl⟩
section
variable {W w : World} {l : List Res} {K : Value → World → Prop} {g : Nat} {s : Sv} {a : Aq} {vs : Sl}
theorem newM (h : Sat W w l) {K : Addr → World → Prop} (hK : ∀ b w', Sat W w' (Blk b (zAq.cells nsl) T_api_Msg :: l) → K ⟨b, 0, none⟩ w') : RunK .addr P (Instr.alloc T_api_Msg true (.tuple #[])) w K :=
  allocB h (z := .agg (zAq.cells nsl).toArray) (by kernel_rfl) fun b w1 hb => hK b w1 (by simpa [Value.cells] using hb)
theorem lkAgg {t T : TypeId} {b : Nat} {cs : List Value} {K : Value → Prop} (h : Sat W w (Blk b cs T :: l)) (ht : aggT P t cs.length = true) (hK : K (.agg cs.toArray)) : LoadK .val P t (.pointer (some ⟨b, 0, none⟩)) w K :=
  ldAggB (K := K) h ht hK
/-- a message is answered by way of a named result -/
theorem retM {y r : Nat} {q z : Aq} {t : Bool} (h : Sat W w (Blk y (q.cells nsl) T_api_Msg :: Blk r (z.cells nsl) T_api_Msg :: l)) (hK : ∀ w', Sat W w' l → K (.tuple #[.agg (q.cells nsl).toArray, .bool t]) w') :
    RunQ .val P (Instr.loadAt T_api_Msg (.pointer (some ⟨y, 0, none⟩))) w fun v => StoreP P T_api_Msg (.pointer (some ⟨r, 0, none⟩)) v w fun w' => LoadK .val P T_api_Msg (.pointer (some ⟨r, 0, none⟩)) w' fun v2 => K (.tuple #[v2, .bool t]) w' := by
  refine ldAggB h (by kernel_rfl) ?_
  refine stAggB (cs' := q.cells nsl) h.swap rfl (Aq.ones q nsl) (by kernel_rfl) fun w2 h2 => ?_
  refine lkAgg h2 (by kernel_rfl) ?_
  exact hK w2 h2.tail.tail
theorem answer_init (h : Sat W w (Blk g s.cells T_penstocklaw19_server :: l)) (hk : a.kind = 7) (hK : ∀ w', Sat W w' (Blk g { s with ins := IntKind.i64.wrap (s.ins + 1) }.cells T_penstocklaw19_server :: l) → K (.tuple #[.agg ({ re0 a with pid := 7, epoch := s.ep, offset := -1 }.cells nsl).toArray, .bool true]) w') :
    CallP P F_law19_server_answer [.pointer (some ⟨g, 0, none⟩), .agg (a.cells vs).toArray] w K := by
  apply c_law19_server_answer
  unfold S_law19_server_answer
  refine boxB h fun m w1 h1 => ?_
  have h1 : Sat W w1 (Blk m (a.cells vs) T_api_Msg :: Blk g s.cells T_penstocklaw19_server :: l) := h1
  refine newM h1 fun r w2 h2 => ?_
  have hm := h2.swap
  refine ldX hm 3 (x := a.corr) ?_
  refine ldX hm 47 (x := a.tx) ?_
  refine ldX hm 48 (x := a.inc) ?_
  refine newAgg (z := zAq.cells nsl) (cs := (re0 a).cells nsl) h2 (Aq.ones _ _) fun y w3 h3 => ?_
  have h3m : Sat W w3 (Blk m (a.cells vs) T_api_Msg :: _) := h3.up 2
  refine ldX h3m 0 (x := a.kind) ?_
  refine ifB_beq (fun _ => ?_) fun hne => absurd hk hne
  have h4 : Sat W w3 (Blk g s.cells T_penstocklaw19_server :: Blk y ((re0 a).cells nsl) T_api_Msg :: Blk r (zAq.cells nsl) T_api_Msg :: Blk m (a.cells vs) T_api_Msg :: l) := h3.up 3
  refine ldX h4 9 (x := s.ins) ?_
  refine stX h4 9 fun w4 h5 => ?_
  have h5 : Sat W w4 (Blk g { s with ins := IntKind.i64.wrap (s.ins + 1) }.cells T_penstocklaw19_server :: Blk y ((re0 a).cells nsl) T_api_Msg :: Blk r (zAq.cells nsl) T_api_Msg :: Blk m (a.cells vs) T_api_Msg :: l) := h5
  refine ldX h5 1 (k := .int .u64) (x := 7) ?_
  refine stX h5.swap 49 fun w5 h6 => ?_
  have h6 : Sat W w5 (Blk y ({ re0 a with pid := 7 }.cells nsl) T_api_Msg :: Blk g { s with ins := IntKind.i64.wrap (s.ins + 1) }.cells T_penstocklaw19_server :: Blk r (zAq.cells nsl) T_api_Msg :: Blk m (a.cells vs) T_api_Msg :: l) := h6
  refine ldX h6.swap 2 (x := s.ep) ?_
  refine stX h6 50 fun w6 h7 => ?_
  have h7 : Sat W w6 (Blk y ({ re0 a with pid := 7, epoch := s.ep }.cells nsl) T_api_Msg :: Blk g { s with ins := IntKind.i64.wrap (s.ins + 1) }.cells T_penstocklaw19_server :: Blk r (zAq.cells nsl) T_api_Msg :: Blk m (a.cells vs) T_api_Msg :: l) := h7
  refine stX h7 46 fun w7 h8 => ?_
  have h8 : Sat W w7 (Blk y ({ re0 a with pid := 7, epoch := s.ep, offset := -1 }.cells nsl) T_api_Msg :: Blk g { s with ins := IntKind.i64.wrap (s.ins + 1) }.cells T_penstocklaw19_server :: Blk r (zAq.cells nsl) T_api_Msg :: Blk m (a.cells vs) T_api_Msg :: l) := h8
  exact retM (h8.sel 4 [0, 2, 1]) fun w8 h9 => hK w8 h9
theorem answer_add (h : Sat W w (Blk g s.cells T_penstocklaw19_server :: l)) (hk : a.kind = 8) (hp : a.pid = 7) (he : a.epoch = s.ep) (ho : a.offset = 0) (ha : s.a0 = false) (hK : ∀ w', Sat W w' (Blk g { s with a0 := true }.cells T_penstocklaw19_server :: l) → K (.tuple #[.agg ((re0 a).cells nsl).toArray, .bool true]) w') :
    CallP P F_law19_server_answer [.pointer (some ⟨g, 0, none⟩), .agg (a.cells vs).toArray] w K := by
  apply c_law19_server_answer
  unfold S_law19_server_answer
  refine boxB h fun m w1 h1 => ?_
  have h1 : Sat W w1 (Blk m (a.cells vs) T_api_Msg :: Blk g s.cells T_penstocklaw19_server :: l) := h1
  refine newM h1 fun r w2 h2 => ?_
  have hm := h2.swap
  refine ldX hm 3 (x := a.corr) ?_
  refine ldX hm 47 (x := a.tx) ?_
  refine ldX hm 48 (x := a.inc) ?_
  refine newAgg (z := zAq.cells nsl) (cs := (re0 a).cells nsl) h2 (Aq.ones _ _) fun y w3 h3 => ?_
  have h3m : Sat W w3 (Blk m (a.cells vs) T_api_Msg :: _) := h3.up 2
  refine ldX h3m 0 (x := a.kind) ?_
  refine ifB_beq (fun e => absurd (hk.symm.trans e) (by decide)) fun _ => ?_
  refine ifB_beq (fun _ => ?_) fun hne => absurd hk hne
  refine ⟨fun _ w' => Sat W w' (Blk g s.cells T_penstocklaw19_server :: Blk y ((re0 a).cells nsl) T_api_Msg :: Blk r (zAq.cells nsl) T_api_Msg :: Blk m (a.cells vs) T_api_Msg :: l), ?_, ?_⟩
  · rintro _ w4 h4
    have h5 := h4.drew
    let S : World → Prop := fun w => ∃ L, Sat W w (Blk m (a.cells vs) T_api_Msg :: L)
    refine ⟨S, ⟨_, h5.up 3⟩, ?_⟩
    refine hldX (S := S) (fun w h => h) 46 (x := a.offset) ?_
    rw [ho]
    refine ⟨⟨g, 6, none⟩, fun w _ => arr2_bool g w, ?_⟩
    refine stX h5 6 fun w5 h6 => ?_
    have h6 : Sat W w5 (Blk g { s with a0 := true }.cells T_penstocklaw19_server :: Blk y ((re0 a).cells nsl) T_api_Msg :: Blk r (zAq.cells nsl) T_api_Msg :: Blk m (a.cells vs) T_api_Msg :: l) := h6
    exact ⟨⟨_, h6.up 3⟩, retM (h6.sel 4 [1, 2, 0]) fun w8 h9 => hK w8 h9⟩
  · have h4 : Sat W w3.drew (Blk g s.cells T_penstocklaw19_server :: Blk y ((re0 a).cells nsl) T_api_Msg :: Blk r (zAq.cells nsl) T_api_Msg :: Blk m (a.cells vs) T_api_Msg :: l) := h3.drew.up 3
    have h4m : Sat W w3.drew (Blk m (a.cells vs) T_api_Msg :: _) := h4.up 3
    refine ldX h4m 49 (k := .int .u64) (x := a.pid) ?_
    refine ldX h4 1 (k := .int .u64) (x := 7) ?_
    refine ifB_bne (fun hne => absurd hp hne) fun _ => ?_
    refine ldX h4m 50 (x := a.epoch) ?_
    refine ldX h4 2 (x := s.ep) ?_
    refine ifB_bne (fun hne => absurd he hne) fun _ => ?_
    refine ldX h4m 46 (x := a.offset) ?_
    rw [ho]
    refine ifB_dec (fun hlt => absurd hlt (by decide)) fun _ => ?_
    refine ldX h4m 46 (x := a.offset) ?_
    rw [ho]
    refine ifB_dec (fun hlt => absurd hlt (by decide)) fun _ => ?_
    refine ldX h4m 46 (x := a.offset) ?_
    rw [ho]
    refine ⟨⟨g, 6, none⟩, arr2_bool g _, ?_⟩
    refine ldX h4 6 (k := .bool) (x := s.a0) ?_
    rw [ha]
    exact h4
theorem answer_end (h : Sat W w (Blk g s.cells T_penstocklaw19_server :: l)) (hk : a.kind = 9) (hp : a.pid = 7) (he : a.epoch = s.ep) (hc : a.commit = s.cm) (hat : s.at_ = IntKind.i64.wrap ((s.os.len : Int) - 1)) (hK : ∀ w', Sat W w' (Blk g { s with fin := true }.cells T_penstocklaw19_server :: l) → K (.tuple #[.agg ((({ re0 a with epoch := IntKind.i64.wrap (s.ep + 2) } : Aq)).cells nsl).toArray, .bool true]) w') :
    CallP P F_law19_server_answer [.pointer (some ⟨g, 0, none⟩), .agg (a.cells vs).toArray] w K := by
  apply c_law19_server_answer
  unfold S_law19_server_answer
  refine boxB h fun m w1 h1 => ?_
  have h1 : Sat W w1 (Blk m (a.cells vs) T_api_Msg :: Blk g s.cells T_penstocklaw19_server :: l) := h1
  refine newM h1 fun r w2 h2 => ?_
  have hm := h2.swap
  refine ldX hm 3 (x := a.corr) ?_
  refine ldX hm 47 (x := a.tx) ?_
  refine ldX hm 48 (x := a.inc) ?_
  refine newAgg (z := zAq.cells nsl) (cs := (re0 a).cells nsl) h2 (Aq.ones _ _) fun y w3 h3 => ?_
  have h3m : Sat W w3 (Blk m (a.cells vs) T_api_Msg :: _) := h3.up 2
  refine ldX h3m 0 (x := a.kind) ?_
  refine ifB_beq (fun e => absurd (hk.symm.trans e) (by decide)) fun _ => ?_
  refine ifB_beq (fun e => absurd (hk.symm.trans e) (by decide)) fun _ => ?_
  refine ifB_beq (fun e => absurd (hk.symm.trans e) (by decide)) fun _ => ?_
  refine ifB_beq (fun _ => ?_) fun hne => absurd hk hne
  have h4 : Sat W w3 (Blk g s.cells T_penstocklaw19_server :: Blk y ((re0 a).cells nsl) T_api_Msg :: Blk r (zAq.cells nsl) T_api_Msg :: Blk m (a.cells vs) T_api_Msg :: l) := h3.up 3
  refine stX h4 10 fun w4 h5 => ?_
  have h5 : Sat W w4 (Blk g { s with fin := true }.cells T_penstocklaw19_server :: Blk y ((re0 a).cells nsl) T_api_Msg :: Blk r (zAq.cells nsl) T_api_Msg :: Blk m (a.cells vs) T_api_Msg :: l) := h5
  refine ldX h5 2 (x := s.ep) ?_
  refine stX h5.swap 50 fun w5 h6 => ?_
  have h6 : Sat W w5 (Blk y ((({ re0 a with epoch := IntKind.i64.wrap (s.ep + 2) } : Aq)).cells nsl) T_api_Msg :: Blk g { s with fin := true }.cells T_penstocklaw19_server :: Blk r (zAq.cells nsl) T_api_Msg :: Blk m (a.cells vs) T_api_Msg :: l) := h6
  have h7 := h6.drew
  let S : World → Prop := fun w => ∃ L, Sat W w (Blk y ((({ re0 a with epoch := IntKind.i64.wrap (s.ep + 2) } : Aq)).cells nsl) T_api_Msg :: Blk g { s with fin := true }.cells T_penstocklaw19_server :: Blk m (a.cells vs) T_api_Msg :: L)
  refine ⟨S, ⟨_, h7.sel 4 [0, 1, 3, 2]⟩, ?_⟩
  refine hldAggB (S := S) (cs := (({ re0 a with epoch := IntKind.i64.wrap (s.ep + 2) } : Aq)).cells nsl) (fun w ⟨L, h⟩ => ⟨_, h⟩) (by kernel_rfl) ?_
  refine hldX (S := S) (fun w ⟨L, h⟩ => ⟨_, h.swap⟩) 8 (x := s.at_) ?_
  refine hldX (S := S) (fun w ⟨L, h⟩ => ⟨_, h.swap⟩) 0 (k := .sl) (x := s.os) ?_
  refine ifB_beq (fun _ => ?_) fun hne => absurd hat hne
  refine hldX (S := S) (fun w ⟨L, h⟩ => ⟨_, h.up 2⟩) 49 (k := .int .u64) (x := a.pid) ?_
  refine hldX (S := S) (fun w ⟨L, h⟩ => ⟨_, h.swap⟩) 1 (k := .int .u64) (x := 7) ?_
  refine ifB_beq (fun _ => ?_) fun hne => absurd hp hne
  refine hldX (S := S) (fun w ⟨L, h⟩ => ⟨_, h.up 2⟩) 50 (x := a.epoch) ?_
  refine hldX (S := S) (fun w ⟨L, h⟩ => ⟨_, h.swap⟩) 2 (x := s.ep) ?_
  refine ifB_beq (fun _ => ?_) fun hne => absurd he hne
  refine hldX (S := S) (fun w ⟨L, h⟩ => ⟨_, h.up 2⟩) 51 (k := .bool) (x := a.commit) ?_
  refine hldX (S := S) (fun w ⟨L, h⟩ => ⟨_, h.swap⟩) 3 (k := .bool) (x := s.cm) ?_
  have h8 : Sat W w5.drew (Blk r (zAq.cells nsl) T_api_Msg :: Blk y ((({ re0 a with epoch := IntKind.i64.wrap (s.ep + 2) } : Aq)).cells nsl) T_api_Msg :: Blk g { s with fin := true }.cells T_penstocklaw19_server :: Blk m (a.cells vs) T_api_Msg :: l) := h7.sel 4 [2, 0, 1, 3]
  refine stAggB (cs' := (({ re0 a with epoch := IntKind.i64.wrap (s.ep + 2) } : Aq)).cells nsl) h8 rfl (Aq.ones _ nsl) (by kernel_rfl) fun w6 h9 => ⟨⟨_, h9.sel 4 [1, 2, 3, 0]⟩, ?_⟩
  rw [hc, show (s.cm == s.cm) = true from by cases s.cm <;> rfl]
  refine lkAgg h9 (by kernel_rfl) ?_
  exact hK w6 (h9.sel 4 [2])
/-- what isn't a write is passed on -/
theorem all_pass {q : Aq} {t : Bool} {R : List Res} (h : Sat W w l) (hk : a.kind ≠ 5)
    (ha : ∀ (l' : List Res) w1 (K' : Value → World → Prop), Sat W w1 (l ++ l') → (∀ w2, Sat W w2 (R ++ l') → K' (.tuple #[.agg (q.cells nsl).toArray, .bool t]) w2) → CallP P F_law19_server_answer [.pointer (some ⟨g, 0, none⟩), .agg (a.cells vs).toArray] w1 K')
    (hK : ∀ w', Sat W w' R → K (.tuple #[.agg (q.cells nsl).toArray, .bool t]) w') :
    CallP P F_law19_server_answerAll [.pointer (some ⟨g, 0, none⟩), .agg (a.cells vs).toArray] w K := by
  apply c_law19_server_answerAll
  unfold S_law19_server_answerAll
  refine boxB h fun m w1 h1 => ?_
  have h1 : Sat W w1 (Blk m (a.cells vs) T_api_Msg :: l) := h1
  refine newM h1 fun r w2 h2 => ?_
  refine ldX h2.swap 0 (x := a.kind) ?_
  refine ifB_bne (fun _ => ?_) fun e => absurd e hk
  refine ldAggB h2.swap (by kernel_rfl) ?_
  refine ha [Blk r (zAq.cells nsl) T_api_Msg, Blk m (a.cells vs) T_api_Msg] w2 _ (h2.perm (by
    have := @List.perm_append_comm _ [Blk r (zAq.cells nsl) T_api_Msg, Blk m (a.cells vs) T_api_Msg] l
    exact this)) fun w3 h3 => tup2vb ?_
  have h4 : Sat W w3 (Blk r (zAq.cells nsl) T_api_Msg :: Blk m (a.cells vs) T_api_Msg :: R) := h3.perm List.perm_append_comm
  refine stAggB (cs' := q.cells nsl) h4 rfl (Aq.ones q nsl) (by kernel_rfl) fun w4 h5 => ?_
  refine lkAgg h5 (by kernel_rfl) ?_
  exact hK w4 h5.tail.tail
theorem all_send (h : Sat W w (Blk g s.cells T_penstocklaw19_server :: l)) (hk : a.kind = 5) (hp : a.part = 0) (ha : s.a0 = true) (hs : a.bs = s.at_) (he : a.be = s.ep) (hv : vs.len = 1) (hK : ∀ w', Sat W w' (Blk g { s with at_ := IntKind.i64.wrap (s.at_ + 1) }.cells T_penstocklaw19_server :: l) → K (.tuple #[.agg ({ re0 a with offset := s.at_ }.cells nsl).toArray, .bool true]) w') :
    CallP P F_law19_server_answerAll [.pointer (some ⟨g, 0, none⟩), .agg (a.cells vs).toArray] w K := by
  apply c_law19_server_answerAll
  unfold S_law19_server_answerAll
  refine boxB h fun m w1 h1 => ?_
  have h1 : Sat W w1 (Blk m (a.cells vs) T_api_Msg :: Blk g s.cells T_penstocklaw19_server :: l) := h1
  refine newM h1 fun r w2 h2 => ?_
  refine ldX h2.swap 0 (x := a.kind) ?_
  refine ifB_bne (fun hne => absurd hk hne) fun _ => ?_
  refine ldAggX 36 9 h2.swap ?_ (by show 36 + 9 ≤ 59; decide)
  refine newAgg (z := [.int .i64 0, .int .i64 0, .int .u64 0, .int .i64 0, .int .i64 0, .bool false, .bool false, .bool false, .slice none 0 0]) (cs := [.int .i64 0, .int .i64 0, .int .u64 a.bp, .int .i64 a.be, .int .i64 a.bs, .bool a.bt, .bool false, .bool false, vs.v]) h2 (by
    intro u hu
    simp only [List.mem_cons, List.not_mem_nil, or_false] at hu
    rcases hu with rfl | rfl | rfl | rfl | rfl | rfl | rfl | rfl | rfl <;> rfl) fun bt w3 h3 => ?_
  have h4 := h3.drew
  generalize hbc : ([.int .i64 0, .int .i64 0, .int .u64 a.bp, .int .i64 a.be, .int .i64 a.bs, .bool a.bt, .bool false, .bool false, vs.v] : List Value) = bc at h3 h4
  have h5 : Sat W w3.drew (Blk m (a.cells vs) T_api_Msg :: Blk g s.cells T_penstocklaw19_server :: Blk bt bc T_api_Batch :: Blk r (zAq.cells nsl) T_api_Msg :: l) := h4.sel 4 [2, 3, 0, 1]
  let S : World → Prop := fun w => ∃ L, Sat W w (Blk m (a.cells vs) T_api_Msg :: Blk g s.cells T_penstocklaw19_server :: L)
  refine ⟨S, ⟨_, h5⟩, ?_⟩
  refine hldX (S := S) (fun w ⟨L, h⟩ => ⟨_, h⟩) 3 (x := a.corr) ?_
  refine hldX (S := S) (fun w ⟨L, h⟩ => ⟨_, h⟩) 47 (x := a.tx) ?_
  refine hldX (S := S) (fun w ⟨L, h⟩ => ⟨_, h⟩) 48 (x := a.inc) ?_
  refine hldX (S := S) (fun w ⟨L, h⟩ => ⟨_, h.swap⟩) 8 (x := s.at_) ?_
  refine newM h5 fun y w4 h6 => ⟨⟨_, h6.sel 3 [1, 2, 0]⟩, ?_⟩
  refine stAggB (cs' := ({ re0 a with offset := s.at_ } : Aq).cells nsl) h6 rfl (Aq.ones _ _) (by kernel_rfl) fun w5 h7 => ⟨⟨_, h7.sel 3 [1, 2, 0]⟩, ?_⟩
  refine ⟨fun _ w' => Sat W w' (Blk y (({ re0 a with offset := s.at_ } : Aq).cells nsl) T_api_Msg :: Blk m (a.cells vs) T_api_Msg :: Blk g s.cells T_penstocklaw19_server :: Blk bt bc T_api_Batch :: Blk r (zAq.cells nsl) T_api_Msg :: l), ?_, ?_⟩
  · rintro _ w6 h8
    have h8g : Sat W w6 (Blk g s.cells T_penstocklaw19_server :: Blk y (({ re0 a with offset := s.at_ } : Aq).cells nsl) T_api_Msg :: Blk m (a.cells vs) T_api_Msg :: Blk bt bc T_api_Batch :: Blk r (zAq.cells nsl) T_api_Msg :: l) := h8.up 2
    refine ldX h8g 8 (x := s.at_) ?_
    refine stX h8g 8 fun w7 h9 => ?_
    have h9 : Sat W w7 (Blk g { s with at_ := IntKind.i64.wrap (s.at_ + 1) }.cells T_penstocklaw19_server :: Blk y (({ re0 a with offset := s.at_ } : Aq).cells nsl) T_api_Msg :: Blk m (a.cells vs) T_api_Msg :: Blk bt bc T_api_Batch :: Blk r (zAq.cells nsl) T_api_Msg :: l) := h9
    exact retM (h9.sel 5 [1, 4, 0]) fun w8 h10 => hK w8 h10
  · have h8 := h7.drew
    have h8m := h8.swap
    have h8g : Sat W w5.drew (Blk g s.cells T_penstocklaw19_server :: _) := h8.up 2
    have h8b : Sat W w5.drew (Blk bt bc T_api_Batch :: _) := h8.up 3
    refine ldX h8m 45 (x := a.part) ?_
    refine ifB_bne (fun hne => absurd hp hne) fun _ => ?_
    refine ⟨⟨g, 6, none⟩, arr2_bool g _, ?_⟩
    refine ldX h8g 6 (k := .bool) (x := s.a0) ?_
    rw [ha]
    simp only [Bool.not_true, ifB_false]
    refine ldX h8b 4 (x := a.bs) ?_ (hx := by rw [← hbc]; rfl)
    refine ldX h8g 8 (x := s.at_) ?_
    refine ifB_bne (fun hne => absurd hs hne) fun _ => ?_
    refine ldX h8b 3 (x := a.be) ?_ (hx := by rw [← hbc]; rfl)
    refine ldX h8g 2 (x := s.ep) ?_
    refine ifB_bne (fun hne => absurd he hne) fun _ => ?_
    refine ldX h8b 8 (k := .sl) (x := vs) ?_ (hx := by rw [← hbc]; rfl)
    refine ifB_bne (fun hne => absurd (by omega) hne) fun _ => h8
end
end Go.Proofs.Ytajhdjjmhfbhgaa
