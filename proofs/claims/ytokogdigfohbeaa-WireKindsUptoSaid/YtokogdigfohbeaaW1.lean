/- Texts of mine, put together: WA, WB, WC, WD, WE, WF. -/
import Derived.Test.YtokogdigfohbeaaE3
import Derived.Test.YtokogdigfohbeaaB1
import Derived.Test.YtokogdigfohbeaaFW
import Derived.Test.YtokogdigfohbeaaE2
import Derived.Test.YtokogdigfohbeaaFL
/- Layer 17 in plain Lean: a message's parts, their bytes, and how they are taken. -/
namespace Go.Proofs.Ytokogdigfohbeaa
open Go Go.Pk
/-- a batch as it is laid: none as none -/
def Dc.no (d : Dc) : Prop := d.bs = [] ∧ d.ct = false
instance (d : Dc) : Decidable d.no := by unfold Dc.no; exact inferInstance
def Dc.bare (d : Dc) : Dc := { d with vs := ⟨none, 0, 0⟩, ss := [] }
def Dc.nf (d : Dc) : Dc := if d.no then zeroDc else d.bare
noncomputable def lyD (d : Dc) : Ly := if d.no then lyO (bytesB []) else ⟨bytesB (eB d), chk d, 0⟩
def okD (d : Dc) : Prop := d.bare = d ∧ (d = zeroDc ∨ (d.num ∧ chk d = 0))
def encBt (d : Dc) : List UInt8 := bytesB (if d.no then [] else encB d)
theorem not_no {d : Dc} (h : chk d = 0) : ¬ d.no := by
  rintro ⟨h1, h2⟩
  obtain ⟨_, n7, _⟩ := chk0 h
  refine n7 (.inl ?_)
  rw [h2]
  exact .inl (by rw [h1]; rfl)
theorem bare_eq {a b : Dc} (ha : a.bare = a) (hb : b.bare = b) (h : a.dat = b.dat) : a = b := by
  rw [← ha, ← hb]
  obtain ⟨⟩ := a; obtain ⟨⟩ := b
  simp only [Dc.dat, Prod.mk.injEq] at h
  obtain ⟨rfl, rfl, rfl, rfl, rfl, rfl, rfl, rfl, rfl⟩ := h
  rfl
theorem decD_bare (t : List UInt8) : (decD t).bare = decD t := by simp only [Dc.bare, decD]
noncomputable def btE (b : List UInt8) : Int := if b = [] then 0 else decE b
noncomputable def btD (b : List UInt8) : Dc := if b = [] then zeroDc else decD b
theorem btE_nil : btE [] = 0 := by unfold btE; rw [if_pos rfl]
theorem btD_nil : btD [] = zeroDc := by unfold btD; rw [if_pos rfl]
theorem btE_ne {b : List UInt8} (h : b ≠ []) : btE b = decE b := by unfold btE; rw [if_neg h]
theorem btD_ne {b : List UInt8} (h : b ≠ []) : btD b = decD b := by unfold btD; rw [if_neg h]
noncomputable def tkBt : Tk Dc := (Tk.chk takeB btE).map btD
theorem erBt : Er tkBt := erB.chk.map
theorem encB_ne (d : Dc) : encB d ≠ [] := by
  intro h
  have := encB_pos (d := d)
  rw [h] at this
  exact absurd this (by simp)
theorem zero_no : zeroDc.no := ⟨rfl, rfl⟩
theorem fmBt : Fm tkBt encBt okD := by
  refine (fmB.chk btE).map (fun b hb => ?_) fun d hd => ?_
  · by_cases h : b = []
    · subst h
      rw [btD_nil]
      refine ⟨⟨rfl, .inl rfl⟩, ?_⟩
      unfold encBt; rw [if_pos zero_no]
    · have h0 := hb.2
      rw [btE_ne h] at h0
      rw [btD_ne h]
      obtain ⟨h1, h2, h3⟩ := enc_dec h0
      refine ⟨⟨decD_bare _, .inr ⟨h2, h3⟩⟩, ?_⟩
      unfold encBt; rw [if_neg (not_no h3), h1]
  · obtain ⟨hb, hd⟩ := hd
    by_cases hz : d = zeroDc
    · subst hz
      exact ⟨[], btD_nil, Nat.zero_le _, btE_nil⟩
    · obtain ⟨hn, hc⟩ := hd.resolve_left hz
      obtain ⟨h1, h2⟩ := dec_enc hn hc
      refine ⟨encB d, (btD_ne (encB_ne d)).trans (bare_eq (decD_bare _) hb h2), ?_, (btE_ne (encB_ne d)).trans h1⟩
      have := encB_len hn hc
      show (encB d).length ≤ 4096
      omega
theorem lyD_ok {d : Dc} (hn : d.num) (h : (lyD d).e = 0) : okD d.nf ∧ (lyD d).o = encBt d.nf := by
  unfold lyD at h ⊢
  unfold Dc.nf encBt
  by_cases h0 : d.no
  · simp only [h0, if_true] at h ⊢
    exact ⟨⟨rfl, .inl rfl⟩, by rw [if_pos zero_no]; rfl⟩
  · simp only [h0, if_false] at h ⊢
    have hb : ¬ d.bare.no := h0
    have hd : chk d.bare = chk d := chk_dat rfl
    refine ⟨⟨rfl, .inr ⟨hn, by rw [hd]; exact h⟩⟩, ?_⟩
    rw [if_neg hb]
    unfold eB
    rw [if_pos h]; rfl
theorem lyD_l (d : Dc) : (lyD d).l = 0 := by unfold lyD; split <;> rfl
theorem lyD_len {d : Dc} (hn : d.num) : (lyD d).o.length ≤ 2010 := by
  unfold lyD
  split
  · simp only [lyO, bytesB, List.length_nil, List.append_nil]
    have := uintB_len10 0 (by decide); omega
  · have := eB_len hn
    have := uintB_len10 (eB d).length (by omega)
    simp only [bytesB, List.length_append]; omega
theorem okD_ly {d : Dc} (h : okD d) : (lyD d).e = 0 ∧ d.nf = d := by
  obtain ⟨hb, rfl | ⟨hn, hc⟩⟩ := h
  · exact ⟨by unfold lyD; rw [if_pos zero_no]; rfl, by unfold Dc.nf; rw [if_pos zero_no]⟩
  · refine ⟨by unfold lyD; rw [if_neg (not_no hc)]; exact hc, ?_⟩
    unfold Dc.nf; rw [if_neg (not_no hc)]; exact hb
/-- a command -/
structure Cd where
  k : Int
  n : Int
  p : Int
  e : Int
  v : Int
  ls : Sl
  li : List Int
def Cd.num (c : Cd) : Prop := okI c.k ∧ okI c.n ∧ okI c.p ∧ okI c.e ∧ okI c.v ∧ ∀ i ∈ c.li, okI i
def cdE (c : Cd) : Int := if c.k < 1 ∨ c.k > 5 ∨ c.li.length > 5 then 1 else 0
abbrev CdD := List Int × List Int
def Cd.d (c : Cd) : CdD := ([c.k, c.n, c.p, c.e, c.v], c.li)
def cdDE (x : CdD) : Int := if x.1.headD 0 < 1 ∨ x.1.headD 0 > 5 ∨ x.2.length > 5 then 1 else 0
def encCd (x : CdD) : List UInt8 := x.1.flatMap intB ++ intsB x.2
noncomputable def lyC (c : Cd) : Ly := ⟨bytesB (if cdE c = 0 then encCd c.d else []), cdE c, 0⟩
noncomputable def tkCd0 : Tk CdD := Tk.dep (Tk.rep takeI 5) fun _ => takeL
def okCd0 (x : CdD) : Prop := (x.1.length = 5 ∧ ∀ i ∈ x.1, okI i) ∧ x.2.length ≤ 4096 ∧ ∀ i ∈ x.2, okI i
theorem fmCd0 : Fm tkCd0 encCd okCd0 := (Fm.rep fmI erI 5).dep (fun _ => erL) fun _ _ => fmL
/-- all the bytes are a command, and a fit one -/
noncomputable def cdTE (t : List UInt8) : Int := if endE t (tkCd0 t 0 0).2.1 (tkCd0 t 0 0).2.2 ≠ 0 then endE t (tkCd0 t 0 0).2.1 (tkCd0 t 0 0).2.2 else cdDE (tkCd0 t 0 0).1
theorem intB_len {n : Int} (h : okI n) : (intB n).length ≤ 10 := uintB_len10 _ (zig_lt h.1 h.2)
theorem ints_len : ∀ {l : List Int}, (∀ i ∈ l, okI i) → (l.flatMap intB).length ≤ 10 * l.length
  | [], _ => by simp
  | x :: l, h => by
    have h1 := intB_len (h x (by simp))
    have h2 := ints_len (l := l) fun y hy => h y (by simp [hy])
    simp only [List.flatMap_cons, List.length_append, List.length_cons]; omega
theorem encCd_len {x : CdD} (h : okCd0 x) (h2 : x.2.length ≤ 5) : (encCd x).length ≤ 200 := by
  have h3 := ints_len h.1.2
  have h4 := ints_len h.2.2
  have := uintB_len10 x.2.length (by omega)
  have := h.1.1
  simp only [encCd, intsB, List.length_append]; omega
def okCd (x : CdD) : Prop := okCd0 x ∧ cdDE x = 0
theorem cdDE0 {x : CdD} (h : cdDE x = 0) : x.2.length ≤ 5 ∧ 1 ≤ x.1.headD 0 ∧ x.1.headD 0 ≤ 5 := by
  unfold cdDE at h
  split at h
  · cases h
  · omega
noncomputable def tkCd : Tk CdD := (Tk.chk takeB cdTE).map fun b => (tkCd0 b 0 0).1
theorem erCd : Er tkCd := erB.chk.map
theorem fmCd : Fm tkCd (fun x => bytesB (encCd x)) okCd := by
  refine (fmB.chk cdTE).map (fun b hb => ?_) fun x hx => ?_
  · have h := hb.2
    unfold cdTE at h
    split at h
    · rename_i h1; exact absurd h h1
    · rename_i h1
      have h1' : endE b (tkCd0 b 0 0).2.1 (tkCd0 b 0 0).2.2 = 0 := Decidable.byContradiction h1
      have he : (tkCd0 b 0 0).2.2 = 0 ∧ ¬ (tkCd0 b 0 0).2.1 < b.length := by
        unfold endE at h1'
        split at h1'
        · cases h1'
        · rename_i h2; exact ⟨h1', fun h3 => h2 ⟨h1', h3⟩⟩
      obtain ⟨b1, b2, b3⟩ := fmCd0.back (Nat.zero_le _) he.1
      refine ⟨⟨b1, h⟩, ?_⟩
      rw [List.drop_zero, List.drop_of_length_le (by omega), List.append_nil] at b2
      rw [← b2]
  · have h5 := cdDE0 hx.2
    have hh := fmCd0.hits (t := encCd x) (p := 0) (r := []) hx.1 (by simp)
    refine ⟨encCd x, by simp only [hh], by have := encCd_len hx.1 h5.1; omega, ?_⟩
    unfold cdTE
    have : endE (encCd x) (0 + (encCd x).length) 0 = 0 := by unfold endE; rw [if_neg (by omega)]
    simp only [hh, this]
    rw [if_neg (by decide)]
    exact hx.2
theorem cd_ok {c : Cd} (h : c.num) (hl : c.li.length ≤ 4096) : okCd0 c.d := by
  obtain ⟨h1, h2, h3, h4, h5, h6⟩ := h
  refine ⟨⟨rfl, fun i hi => ?_⟩, hl, h6⟩
  simp only [Cd.d, List.mem_cons, List.not_mem_nil, or_false] at hi
  rcases hi with rfl | rfl | rfl | rfl | rfl <;> assumption
theorem cdE_d (c : Cd) : cdDE c.d = cdE c := rfl
theorem lyC_ok {c : Cd} (h : c.num) (he : (lyC c).e = 0) : okCd c.d ∧ (lyC c).o = bytesB (encCd c.d) := by
  have he' : cdE c = 0 := he
  have h5 := cdDE0 (x := c.d) he'
  refine ⟨⟨cd_ok h (by have := h5.1; show c.li.length ≤ 4096; have h6 : c.li.length ≤ 5 := this; omega), he'⟩, ?_⟩
  unfold lyC
  simp only [if_pos he']
theorem lyC_len {c : Cd} (h : c.num) : (lyC c).o.length ≤ 210 := by
  unfold lyC
  by_cases he : cdE c = 0
  · have h5 := cdDE0 (x := c.d) he
    have h6 : c.li.length ≤ 5 := h5.1
    have := encCd_len (cd_ok h (by omega)) h5.1
    have := uintB_len10 (encCd c.d).length (by omega)
    simp only [if_pos he, bytesB, List.length_append]; omega
  · have := uintB_len10 0 (by decide)
    simp only [if_neg he, bytesB, List.length_nil, List.append_nil]; omega
end Go.Proofs.Ytokogdigfohbeaa

/- Layer 17 in plain Lean: messages. -/
namespace Go.Proofs.Ytokogdigfohbeaa
open Go Go.Pk
structure En17 where
  t : Int
  s : Sl
  d : List UInt8
structure Rm where
  kind : Int
  frm : Int
  to : Int
  term : Int
  index : Int
  lterm : Int
  commit : Int
  rej : Bool
  es : Sl
  el : List En17
  ss : Sl
  snap : List UInt8
structure Fq where
  part : Int
  epoch : Int
  node : Int
  offset : Int
  le : Int
structure Fd where
  part : Int
  epoch : Int
  e : Int
  high : Int
  div : Bool
  ee : Int
  en : Int
  offset : Int
  le : Int
  bs : Sl
  bl : List Dc
structure Ab where
  pid : Int
  first : Int
  last : Int
  pos : 0 ≤ pid
structure Ms where
  kind : Int
  frm : Int
  to : Int
  corr : Int
  er : Int
  rf : Rm
  fq : Fq
  fd : Fd
  cd : Cd
  bt : Dc
  part : Int
  offset : Int
  tx : Int
  inc : Int
  pid : Int
  epoch : Int
  commit : Bool
  group : Int
  gen : Int
  member : Int
  ms : Sl
  mi : List Int
  bs : Sl
  bl : List Dc
  av : Sl
  al : List Ab
  high : Int
def En17.cells (x : En17) : List Value := [.int .i64 x.t, x.s.v]
def Rm.cells (x : Rm) : List Value := [.int .i64 x.kind, .int .i64 x.frm, .int .i64 x.to, .int .i64 x.term, .int .i64 x.index, .int .i64 x.lterm, .int .i64 x.commit, .bool x.rej, x.es.v, x.ss.v]
def Fq.cells (x : Fq) : List Value := [.int .i64 x.part, .int .i64 x.epoch, .int .i64 x.node, .int .i64 x.offset, .int .i64 x.le]
def Fd.cells (x : Fd) : List Value := [.int .i64 x.part, .int .i64 x.epoch, .int .i64 x.e, .int .i64 x.high, .bool x.div, .int .i64 x.ee, .int .i64 x.en, .int .i64 x.offset, .int .i64 x.le, x.bs.v]
def Cd.cells (x : Cd) : List Value := [.int .i64 x.k, .int .i64 x.n, .int .i64 x.p, .int .i64 x.e, .int .i64 x.v, x.ls.v]
def Ab.cells (x : Ab) : List Value := [.int .u64 x.pid, .int .i64 x.first, .int .i64 x.last]
def Ms.cells (m : Ms) : List Value := [.int .i64 m.kind, .int .i64 m.frm, .int .i64 m.to, .int .i64 m.corr, .int .i64 m.er] ++ (m.rf.cells ++ (m.fq.cells ++ (m.fd.cells ++ (m.cd.cells ++ (m.bt.cells ++
  [.int .i64 m.part, .int .i64 m.offset, .int .i64 m.tx, .int .i64 m.inc, .int .u64 m.pid, .int .i64 m.epoch, .bool m.commit, .int .i64 m.group, .int .i64 m.gen, .int .i64 m.member, m.ms.v, m.bs.v, m.av.v, .int .i64 m.high])))))
def Rm.ns (x : Rm) : List Int := [x.kind, x.frm, x.to, x.term, x.index, x.lterm, x.commit]
def Fq.ns (x : Fq) : List Int := [x.part, x.epoch, x.node, x.offset, x.le]
def Fd.ns (x : Fd) : List Int := [x.part, x.epoch, x.e, x.high, x.ee, x.en, x.offset, x.le]
def Ms.hd (m : Ms) : List Int := [m.kind, m.frm, m.to, m.corr, m.er]
def Ms.ns (m : Ms) : List Int := [m.part, m.offset, m.tx, m.inc, m.epoch, m.group, m.gen, m.member, m.high]
def Rm.num (x : Rm) : Prop := (∀ i ∈ x.ns, okI i) ∧ ∀ y ∈ x.el, okI y.t
def Fq.num (x : Fq) : Prop := ∀ i ∈ x.ns, okI i
def Fd.num (x : Fd) : Prop := (∀ i ∈ x.ns, okI i) ∧ ∀ y ∈ x.bl, y.num
def Ab.num (x : Ab) : Prop := (0 ≤ x.pid ∧ x.pid < 18446744073709551616) ∧ okI x.first ∧ okI x.last
structure Ms.num (m : Ms) : Prop where
  hd : ∀ i ∈ m.hd, okI i
  rf : m.rf.num
  fq : m.fq.num
  fd : m.fd.num
  cd : m.cd.num
  bt : m.bt.num
  ns : ∀ i ∈ m.ns, okI i
  pid : 0 ≤ m.pid ∧ m.pid < 18446744073709551616
  mi : ∀ i ∈ m.mi, okI i
  bl : ∀ y ∈ m.bl, y.num
  al : ∀ y ∈ m.al, y.num
/-! ### what is laid -/
def lyEn (x : En17) : Ly := (lyO (intB x.t)).add (lyB x.d)
def lyRf (x : Rm) : Ly := (lyO (x.ns.flatMap intB)).add ((lyO (flagB x.rej)).add ((lyN x.el.length).add ((lyL lyEn x.el).add (lyB x.snap))))
noncomputable def lyDs (l : List Dc) : Ly := (lyN l.length).add (lyL lyD l)
noncomputable def lyFd (x : Fd) : Ly := (lyO (x.ns.flatMap intB)).add ((lyO (flagB x.div)).add (lyDs x.bl))
def lyAb (x : Ab) : Ly := lyO (uintB x.pid.toNat ++ (intB x.first ++ intB x.last))
def lyMi (l : List Int) : Ly := ⟨intsB l, if l.length > 512 then 2 else 0, 0⟩
noncomputable def lyCl (m : Ms) : Ly := (lyO (m.ns.flatMap intB)).add ((lyO (uintB m.pid.toNat)).add ((lyO (flagB m.commit)).add ((lyMi m.mi).add ((lyD m.bt).add ((lyDs m.bl).add ((lyN m.al.length).add (lyL lyAb m.al)))))))
noncomputable def lyRest (m : Ms) : Ly := if m.kind = 1 then lyRf m.rf else if m.kind = 2 then lyO (m.fq.ns.flatMap intB) else if m.kind = 3 then lyFd m.fd else if m.kind = 4 then lyC m.cd else lyCl m
noncomputable def lyM (m : Ms) : Ly := (lyO (m.hd.flatMap intB)).add (lyRest m)
noncomputable def mE (m : Ms) : Int := if m.kind < 1 ∨ m.kind > 15 then 1 else or0 (lyM m).e (lyM m).l
noncomputable def mB (m : Ms) : List UInt8 := if mE m = 0 then (lyM m).o else []
/-! ### the same av data -/
inductive Rest where
  | raft (n : List Int) (rej : Bool) (es : List (Int × List UInt8)) (snap : List UInt8)
  | fetch (n : List Int)
  | fetched (n : List Int) (div : Bool) (bs : List Dc)
  | cmd (c : CdD)
  | client (n : List Int) (pid : Nat) (commit : Bool) (mi : List Int) (b : Dc) (bs : List Dc) (av : List (Nat × Int × Int))
def encEn (x : Int × List UInt8) : List UInt8 := intB x.1 ++ bytesB x.2
def encAb (x : Nat × Int × Int) : List UInt8 := uintB x.1 ++ (intB x.2.1 ++ intB x.2.2)
def encDs (l : List Dc) : List UInt8 := uintB l.length ++ l.flatMap encBt
def encRest : Rest → List UInt8
  | .raft n r es s => n.flatMap intB ++ (flagB r ++ ((uintB es.length ++ es.flatMap encEn) ++ bytesB s))
  | .fetch n => n.flatMap intB
  | .fetched n d bs => n.flatMap intB ++ (flagB d ++ encDs bs)
  | .cmd c => bytesB (encCd c)
  | .client n p c mi b bs av => n.flatMap intB ++ (uintB p ++ (flagB c ++ (intsB mi ++ (encBt b ++ (encDs bs ++ (uintB av.length ++ av.flatMap encAb))))))
def okNs (k : Nat) (n : List Int) : Prop := n.length = k ∧ ∀ i ∈ n, okI i
def okMi (l : List Int) : Prop := (l.length ≤ 4096 ∧ ∀ i ∈ l, okI i) ∧ (if l.length > 512 then (2 : Int) else 0) = 0
def okDs (l : List Dc) : Prop := l.length ≤ 512 ∧ ∀ d ∈ l, okD d
def okRest (k : Int) : Rest → Prop
  | .raft n _ es s => k = 1 ∧ okNs 7 n ∧ (es.length ≤ 512 ∧ ∀ x ∈ es, okI x.1 ∧ x.2.length ≤ 4096) ∧ s.length ≤ 4096
  | .fetch n => k = 2 ∧ okNs 5 n
  | .fetched n _ bs => k = 3 ∧ okNs 8 n ∧ okDs bs
  | .cmd c => k = 4 ∧ okCd c
  | .client n p _ mi b bs av => (k ≠ 1 ∧ k ≠ 2 ∧ k ≠ 3 ∧ k ≠ 4) ∧ okNs 9 n ∧ okU p ∧ okMi mi ∧ okD b ∧ okDs bs ∧ av.length ≤ 512 ∧ ∀ x ∈ av, okU x.1 ∧ okI x.2.1 ∧ okI x.2.2
abbrev Md := List Int × Rest
def encMd (x : Md) : List UInt8 := x.1.flatMap intB ++ encRest x.2
def hdE (h : List Int) : Int := if h.headD 0 < 1 ∨ h.headD 0 > 15 then 1 else 0
def okMd (x : Md) : Prop := (okNs 5 x.1 ∧ hdE x.1 = 0) ∧ okRest (x.1.headD 0) x.2
/-! ### how it is taken -/
noncomputable def tkEn : Tk (Int × List UInt8) := Tk.dep takeI fun _ => takeB
noncomputable def tkAb : Tk (Nat × Int × Int) := Tk.dep takeU fun _ => Tk.dep takeI fun _ => takeI
noncomputable def tkMi : Tk (List Int) := Tk.chk takeL fun l => if l.length > 512 then 2 else 0
noncomputable def tkRaft : Tk Rest := (Tk.dep (Tk.rep takeI 7) fun _ => Tk.dep takeF fun _ => Tk.dep (tkMany tkEn) fun _ => takeB).map fun x => .raft x.1 x.2.1 x.2.2.1 x.2.2.2
noncomputable def tkFetch : Tk Rest := (Tk.rep takeI 5).map .fetch
noncomputable def tkFetched : Tk Rest := (Tk.dep (Tk.rep takeI 8) fun _ => Tk.dep takeF fun _ => tkMany tkBt).map fun x => .fetched x.1 x.2.1 x.2.2
noncomputable def tkCmd : Tk Rest := tkCd.map .cmd
noncomputable def tkClient : Tk Rest := (Tk.dep (Tk.rep takeI 9) fun _ => Tk.dep takeU fun _ => Tk.dep takeF fun _ => Tk.dep tkMi fun _ => Tk.dep tkBt fun _ => Tk.dep (tkMany tkBt) fun _ => tkMany tkAb).map
  fun x => .client x.1 x.2.1 x.2.2.1 x.2.2.2.1 x.2.2.2.2.1 x.2.2.2.2.2.1 x.2.2.2.2.2.2
noncomputable def tkRest (k : Int) : Tk Rest := if k = 1 then tkRaft else if k = 2 then tkFetch else if k = 3 then tkFetched else if k = 4 then tkCmd else tkClient
noncomputable def tkHd : Tk (List Int) := (Tk.rep takeI 5).chk hdE
noncomputable def tkMd : Tk Md := Tk.dep tkHd fun h => tkRest (h.headD 0)
theorem erIs (n : Nat) : Er (Tk.rep takeI n) := erI.rep n
theorem erEn : Er tkEn := erI.dep fun _ => erB
theorem erAb : Er tkAb := erU.dep fun _ => erI.dep fun _ => erI
theorem erMi : Er tkMi := erL.chk
theorem erRaft : Er tkRaft := ((erIs 7).dep fun _ => erF.dep fun _ => (erMany erEn).dep fun _ => erB).map
theorem erFetch : Er tkFetch := (erIs 5).map
theorem erFetched : Er tkFetched := ((erIs 8).dep fun _ => erF.dep fun _ => erMany erBt).map
theorem erCmd : Er tkCmd := erCd.map
theorem erClient : Er tkClient := ((erIs 9).dep fun _ => erU.dep fun _ => erF.dep fun _ => erMi.dep fun _ => erBt.dep fun _ => (erMany erBt).dep fun _ => erMany erAb).map
theorem erRest (k : Int) : Er (tkRest k) := by
  unfold tkRest
  repeat' split
  · exact erRaft
  · exact erFetch
  · exact erFetched
  · exact erCmd
  · exact erClient
theorem erMd : Er tkMd := Er.dep ((erIs 5).chk) fun _ => erRest _
theorem fmEn : Fm tkEn encEn (fun x => okI x.1 ∧ x.2.length ≤ 4096) := fmI.dep (fun _ => erB) fun _ _ => fmB
theorem fmAb : Fm tkAb encAb (fun x => okU x.1 ∧ okI x.2.1 ∧ okI x.2.2) := fmU.dep (fun _ => erI.dep fun _ => erI) fun _ _ => fmI.dep (fun _ => erI) fun _ _ => fmI
theorem fmMi : Fm tkMi intsB okMi := fmL.chk _
theorem fmRest (k : Int) : Fm (tkRest k) encRest (okRest k) := by
  unfold tkRest
  by_cases h1 : k = 1
  · rw [if_pos h1]
    have h := (Fm.rep fmI erI 7).dep (fun _ => erF.dep fun _ => (erMany erEn).dep fun _ => erB) fun _ _ => fmF.dep (fun _ => (erMany erEn).dep fun _ => erB) fun _ _ => (fmMany fmEn erEn).dep (fun _ => erB) fun _ _ => fmB
    refine h.map (fun a ha => ⟨⟨h1, ha.1, ha.2.2.1, ha.2.2.2⟩, rfl⟩) fun b hb => ?_
    cases b with
    | raft n r es s => exact ⟨(n, r, es, s), rfl, hb.2.1, trivial, hb.2.2.1, hb.2.2.2⟩
    | fetch n => exact absurd (h1 ▸ hb.1) (by decide)
    | fetched n d bs => exact absurd (h1 ▸ hb.1) (by decide)
    | cmd c => exact absurd (h1 ▸ hb.1) (by decide)
    | client n p c mi b bs av => exact absurd h1 hb.1.1
  · rw [if_neg h1]
    by_cases h2 : k = 2
    · rw [if_pos h2]
      refine (Fm.rep fmI erI 5).map (fun a ha => ⟨⟨h2, ha⟩, rfl⟩) fun b hb => ?_
      cases b with
      | raft n r es s => exact absurd (h2 ▸ hb.1) (by decide)
      | fetch n => exact ⟨n, rfl, hb.2⟩
      | fetched n d bs => exact absurd (h2 ▸ hb.1) (by decide)
      | cmd c => exact absurd (h2 ▸ hb.1) (by decide)
      | client n p c mi b bs av => exact absurd h2 hb.1.2.1
    · rw [if_neg h2]
      by_cases h3 : k = 3
      · rw [if_pos h3]
        have h := (Fm.rep fmI erI 8).dep (fun _ => erF.dep fun _ => erMany erBt) fun _ _ => fmF.dep (fun _ => erMany erBt) fun _ _ => fmMany fmBt erBt
        refine h.map (fun a ha => ⟨⟨h3, ha.1, ha.2.2⟩, rfl⟩) fun b hb => ?_
        cases b with
        | raft n r es s => exact absurd (h3 ▸ hb.1) (by decide)
        | fetch n => exact absurd (h3 ▸ hb.1) (by decide)
        | fetched n d bs => exact ⟨(n, d, bs), rfl, hb.2.1, trivial, hb.2.2⟩
        | cmd c => exact absurd (h3 ▸ hb.1) (by decide)
        | client n p c mi b bs av => exact absurd h3 hb.1.2.2.1
      · rw [if_neg h3]
        by_cases h4 : k = 4
        · rw [if_pos h4]
          refine fmCd.map (fun a ha => ⟨⟨h4, ha⟩, rfl⟩) fun b hb => ?_
          cases b with
          | raft n r es s => exact absurd (h4 ▸ hb.1) (by decide)
          | fetch n => exact absurd (h4 ▸ hb.1) (by decide)
          | fetched n d bs => exact absurd (h4 ▸ hb.1) (by decide)
          | cmd c => exact ⟨c, rfl, hb.2⟩
          | client n p c mi b bs av => exact absurd h4 hb.1.2.2.2
        · rw [if_neg h4]
          have h := (Fm.rep fmI erI 9).dep (fun _ => erU.dep fun _ => erF.dep fun _ => erMi.dep fun _ => erBt.dep fun _ => (erMany erBt).dep fun _ => erMany erAb) fun _ _ =>
            fmU.dep (fun _ => erF.dep fun _ => erMi.dep fun _ => erBt.dep fun _ => (erMany erBt).dep fun _ => erMany erAb) fun _ _ =>
            fmF.dep (fun _ => erMi.dep fun _ => erBt.dep fun _ => (erMany erBt).dep fun _ => erMany erAb) fun _ _ =>
            fmMi.dep (fun _ => erBt.dep fun _ => (erMany erBt).dep fun _ => erMany erAb) fun _ _ =>
            fmBt.dep (fun _ => (erMany erBt).dep fun _ => erMany erAb) fun _ _ =>
            (fmMany fmBt erBt).dep (fun _ => erMany erAb) fun _ _ => fmMany fmAb erAb
          refine h.map (fun a ha => ⟨⟨⟨h1, h2, h3, h4⟩, ha.1, ha.2.1, ha.2.2.2.1, ha.2.2.2.2.1, ha.2.2.2.2.2.1, ha.2.2.2.2.2.2⟩, rfl⟩) fun b hb => ?_
          cases b with
          | raft n r es s => exact absurd hb.1 h1
          | fetch n => exact absurd hb.1 h2
          | fetched n d bs => exact absurd hb.1 h3
          | cmd c => exact absurd hb.1 h4
          | client n p c mi b bs av => exact ⟨(n, p, c, mi, b, bs, av), rfl, hb.2.1, hb.2.2.1, trivial, hb.2.2.2.1, hb.2.2.2.2.1, hb.2.2.2.2.2.1, hb.2.2.2.2.2.2⟩
theorem fmMd : Fm tkMd encMd okMd := ((Fm.rep fmI erI 5).chk hdE).dep (fun _ => erRest _) fun _ _ => fmRest _
end Go.Proofs.Ytokogdigfohbeaa

/- Layer 17 in plain Lean: what is laid is the data's form; sizes. -/
namespace Go.Proofs.Ytokogdigfohbeaa
open Go Go.Pk
def En17.dat (x : En17) : Int × List UInt8 := (x.t, x.d)
def Ab.dat (x : Ab) : Nat × Int × Int := (x.pid.toNat, x.first, x.last)
def Ms.rest (m : Ms) : Rest :=
  if m.kind = 1 then .raft m.rf.ns m.rf.rej (m.rf.el.map En17.dat) m.rf.snap else if m.kind = 2 then .fetch m.fq.ns else if m.kind = 3 then .fetched m.fd.ns m.fd.div (m.fd.bl.map Dc.nf)
  else if m.kind = 4 then .cmd m.cd.d else .client m.ns m.pid.toNat m.commit m.mi m.bt.nf (m.bl.map Dc.nf) (m.al.map Ab.dat)
def Ms.d (m : Ms) : Md := (m.hd, m.rest)
theorem or0_if {p : Prop} [Decidable p] (h : (if p then (2 : Int) else 0) = 0) : ¬ p := by
  intro hp; rw [if_pos hp] at h; cases h
theorem lyB_0 {b : List UInt8} : (lyB b).l = 0 ↔ b.length ≤ 4096 := by
  unfold lyB
  simp only
  split <;> simp <;> omega
theorem lyN_0 {n : Nat} : (lyN n).e = 0 ↔ n ≤ 512 := by
  unfold lyN
  simp only
  split <;> simp <;> omega
theorem lyD_iff {d : Dc} (hn : d.num) : (lyD d).e = 0 ↔ okD d.nf := by
  refine ⟨fun h => (lyD_ok hn h).1, fun h => ?_⟩
  unfold Dc.nf at h
  unfold lyD
  by_cases h0 : d.no
  · rw [if_pos h0]; rfl
  · rw [if_neg h0] at h ⊢
    have h1 := (okD_ly h).1
    unfold lyD at h1
    have hb : ¬ d.bare.no := h0
    rw [if_neg hb] at h1
    have : chk d.bare = chk d := chk_dat rfl
    show chk d = 0
    rw [← this]; exact h1
theorem map_flat {α β : Type} (f : α → List UInt8) (g : β → List UInt8) (k : α → β) : ∀ (l : List α), (∀ x ∈ l, f x = g (k x)) → l.flatMap f = (l.map k).flatMap g
  | [], _ => rfl
  | x :: l, h => by
    simp only [List.flatMap_cons, List.map_cons, h x (by simp), map_flat f g k l fun y hy => h y (by simp [hy])]
theorem lyDs_iff {l : List Dc} (hn : ∀ d ∈ l, d.num) : (lyDs l).e = 0 ↔ okDs (l.map Dc.nf) := by
  simp only [lyDs, Ly.add, or0_zero, lyN_0, lyL_e, okDs, List.length_map, List.mem_map]
  constructor
  · rintro ⟨h1, h2⟩
    refine ⟨h1, ?_⟩
    rintro d ⟨x, hx, rfl⟩
    exact (lyD_iff (hn x hx)).1 (h2 x hx)
  · rintro ⟨h1, h2⟩
    exact ⟨h1, fun x hx => (lyD_iff (hn x hx)).2 (h2 _ ⟨x, hx, rfl⟩)⟩
theorem lyDs_l (l : List Dc) : (lyDs l).l = 0 := by
  simp only [lyDs, Ly.add, or0_zero]
  exact ⟨rfl, (lyL_l _ _).2 fun x _ => lyD_l x⟩
theorem lyDs_o {l : List Dc} (hn : ∀ d ∈ l, d.num) (h : (lyDs l).e = 0) : (lyDs l).o = encDs (l.map Dc.nf) := by
  simp only [lyDs, Ly.add, or0_zero, lyL_e] at h
  simp only [lyDs, Ly.add, lyL_o, encDs, List.length_map]
  rw [map_flat (fun x => (lyD x).o) encBt Dc.nf l fun x hx => (lyD_ok (hn x hx) (h.2 x hx)).2]
  rfl
theorem lyCd_iff {c : Cd} (hn : c.num) : (lyC c).e = 0 ↔ okCd c.d := ⟨fun h => (lyC_ok hn h).1, fun h => h.2⟩
theorem hd_ok {m : Ms} (h : m.num) : okNs 5 m.hd := ⟨rfl, h.hd⟩
theorem mE_iff {m : Ms} (hn : m.num) : mE m = 0 ↔ okMd m.d := by
  unfold mE
  have hh : hdE m.hd = if m.kind < 1 ∨ m.kind > 15 then 1 else 0 := rfl
  by_cases hk : m.kind < 1 ∨ m.kind > 15
  · rw [if_pos hk]
    refine ⟨fun h => (by cases h), fun h => ?_⟩
    have h1 := h.1.2
    have h2 : hdE m.hd = 0 := h1
    rw [hh, if_pos hk] at h2
    cases h2
  · rw [if_neg hk] at hh ⊢
    have key : or0 (lyM m).e (lyM m).l = 0 ↔ okRest m.kind m.rest := by
      simp only [lyM, Ly.add, lyO, or0_0]
      unfold lyRest Ms.rest
      by_cases h1 : m.kind = 1
      · simp only [h1, if_true]
        simp only [lyRf, Ly.add, lyO, or0_0, okRest, or0_zero, lyL_e, lyL_l, lyB_0, lyN_0]
        constructor
        · rintro ⟨⟨e1, e2, e3⟩, e4, e5, e6⟩
          refine ⟨trivial, ⟨rfl, hn.rf.1⟩, ⟨by simpa using e1, ?_⟩, e6⟩
          intro x hx
          obtain ⟨y, hy, rfl⟩ := List.mem_map.1 hx
          refine ⟨hn.rf.2 y hy, ?_⟩
          have := e5 y hy
          simp only [lyEn, Ly.add, lyO, or0_0, lyB_0] at this
          exact this
        · rintro ⟨_, _, ⟨f1, f2⟩, f3⟩
          refine ⟨⟨by simpa using f1, fun x _ => ?_, rfl⟩, rfl, fun x hx => ?_, f3⟩
          · rfl
          · have := (f2 x.dat (List.mem_map.2 ⟨x, hx, rfl⟩)).2
            simp only [lyEn, Ly.add, lyO, or0_0, lyB_0]
            exact this
      · simp only [h1, if_false]
        by_cases h2 : m.kind = 2
        · simp only [h2, if_true, okRest]
          exact ⟨fun _ => ⟨trivial, rfl, hn.fq⟩, fun _ => rfl⟩
        · simp only [h2, if_false]
          by_cases h3 : m.kind = 3
          · simp only [h3, if_true, okRest]
            simp only [lyFd, Ly.add, lyO, or0_0, lyDs_l, or0_r]
            rw [lyDs_iff hn.fd.2]
            exact ⟨fun h => ⟨trivial, ⟨rfl, hn.fd.1⟩, h⟩, fun h => h.2.2⟩
          · simp only [h3, if_false]
            by_cases h4 : m.kind = 4
            · simp only [h4, if_true, okRest]
              have : (lyC m.cd).l = 0 := rfl
              rw [this, or0_r, lyCd_iff hn.cd]
              exact ⟨fun h => ⟨trivial, h⟩, fun h => h.2⟩
            · simp only [h4, if_false, okRest]
              have hl : (lyCl m).l = 0 := by
                simp only [lyCl, Ly.add, lyO, or0_0, lyDs_l, lyD_l, lyMi, or0_zero]
                exact ⟨rfl, (lyL_l _ _).2 fun x _ => rfl⟩
              rw [hl, or0_r]
              simp only [lyCl, Ly.add, lyO, or0_0, or0_zero, lyN_0, lyL_e]
              rw [lyDs_iff hn.bl, lyD_iff hn.bt]
              constructor
              · rintro ⟨e1, e2, e3, e4, e5⟩
                refine ⟨⟨h1, h2, h3, h4⟩, ⟨rfl, hn.ns⟩, ?_, ⟨⟨?_, hn.mi⟩, e1⟩, e2, e3, by simpa using e4, ?_⟩
                · have := hn.pid; show m.pid.toNat < 2 ^ 64; omega
                · have := or0_if e1; omega
                · intro x hx
                  obtain ⟨y, hy, rfl⟩ := List.mem_map.1 hx
                  have := hn.al y hy
                  refine ⟨?_, this.2⟩
                  show y.pid.toNat < 2 ^ 64
                  have := this.1; omega
              · rintro ⟨_, _, _, f1, f2, f3, f4, f5⟩
                exact ⟨f1.2, f2, f3, by simpa using f4, fun x _ => rfl⟩
    rw [key]
    constructor
    · intro h; exact ⟨⟨hd_ok hn, hh⟩, h⟩
    · intro h; exact h.2
theorem lyM_o {m : Ms} (hn : m.num) (h : mE m = 0) : (lyM m).o = encMd m.d := by
  unfold mE at h
  split at h
  · cases h
  · rw [or0_zero] at h
    obtain ⟨he, _⟩ := h
    have e : encMd m.d = m.hd.flatMap intB ++ encRest m.rest := rfl
    rw [e]
    simp only [lyM, Ly.add, lyO, or0_0] at he ⊢
    congr 1
    unfold lyRest at he ⊢
    unfold Ms.rest
    by_cases h1 : m.kind = 1
    · simp only [h1, if_true]
      simp only [lyRf, Ly.add, lyO, lyN, lyB, encRest, lyL_o, List.length_map, List.append_assoc]
      rw [map_flat (fun x => (lyEn x).o) encEn En17.dat m.rf.el fun x _ => rfl]
    · simp only [h1, if_false] at he ⊢
      by_cases h2 : m.kind = 2
      · simp only [h2, if_true]; rfl
      · simp only [h2, if_false] at he ⊢
        by_cases h3 : m.kind = 3
        · simp only [h3, if_true] at he ⊢
          simp only [lyFd, Ly.add, lyO, or0_0] at he
          simp only [lyFd, Ly.add, lyO, encRest]
          rw [lyDs_o hn.fd.2 he]
        · simp only [h3, if_false] at he ⊢
          by_cases h4 : m.kind = 4
          · simp only [h4, if_true] at he ⊢
            exact (lyC_ok hn.cd he).2
          · simp only [h4, if_false] at he ⊢
            simp only [lyCl, Ly.add, lyO, or0_0, or0_zero] at he
            simp only [lyCl, Ly.add, lyO, encRest, lyL_o, List.length_map]
            rw [lyDs_o hn.bl he.2.2.1, (lyD_ok hn.bt he.2.1).2, map_flat (fun x => (lyAb x).o) encAb Ab.dat m.al fun x _ => rfl]
            rfl
/-! ### sizes -/
def Rm.wt (x : Rm) : Nat := wsum (fun y => y.d.length + 1) x.el + x.snap.length
def Ms.wt (m : Ms) : Nat := m.rf.wt + m.fd.bl.length + m.mi.length + m.bl.length + m.al.length + m.cd.li.length
theorem lyEn_len {x : En17} (h : okI x.t) : (lyEn x).o.length ≤ 20 * (x.d.length + 1) := by
  have := intB_len h
  simp only [lyEn, Ly.add, lyO, lyB, bytesB, List.length_append]
  by_cases hl : x.d.length < 2 ^ 64
  · have := uintB_len10 x.d.length hl; omega
  · have : (uintB x.d.length).length ≤ x.d.length + 1 := uintB_len x.d.length _ (by
      have : ∀ n : Nat, n < 128 ^ (n + 1) := fun n => Nat.lt_of_lt_of_le (Nat.lt_two_pow_self) (Nat.le_trans (Nat.pow_le_pow_left (by decide) n) (Nat.pow_le_pow_right (by decide) (by omega)))
      exact this _)
    omega
theorem wsum_one {α : Type} (l : List α) : wsum (fun _ => 1) l = l.length := by
  induction l with
  | nil => rfl
  | cons x l ih => simp only [wsum, ih, List.length_cons]; omega
theorem lyDs_len {l : List Dc} (hn : ∀ d ∈ l, d.num) (hl : l.length < 2 ^ 64) : (lyDs l).o.length ≤ 10 + 2010 * l.length := by
  have h1 := uintB_len10 l.length hl
  have h2 := lyL_len (f := lyD) (g := fun _ => 1) (c := 2010) (l := l) fun x hx => by have := lyD_len (hn x hx); omega
  rw [wsum_one] at h2
  simp only [lyDs, Ly.add, lyN, List.length_append]; omega
end Go.Proofs.Ytokogdigfohbeaa

/- Layer 17: a message in memory; the writer. -/
namespace Go.Proofs.Ytokogdigfohbeaa
open Go Go.Pk
theorem et_ents : ET P T_sl_api_Entry T_api_Entry 2 32 := ET.of (by kernel_rfl)
theorem et_batches : ET P T_sl_api_Batch T_api_Batch 9 72 := ET.of (by kernel_rfl)
theorem et_aborts : ET P T_sl_api_Abort T_api_Abort 3 24 := ET.of (by kernel_rfl)
def elEn : El En17 := ⟨T_api_Entry, 2, En17.cells, fun x => BsR x.s x.d, fun _ => rfl, fun _ u hu => by
  simp only [En17.cells, List.mem_cons, List.not_mem_nil, or_false] at hu
  rcases hu with rfl | rfl <;> rfl⟩
def elDc : El Dc := ⟨T_api_Batch, 9, Dc.cells, fun d => All [Pure (d.ss.length = d.bs.length), VsR d.vs d.ss d.bs], fun _ => rfl, fun d => Dc.ones d⟩
def elAb : El Ab := ⟨T_api_Abort, 3, Ab.cells, fun _ => Pure True, fun _ => rfl, fun _ u hu => by
  simp only [Ab.cells, List.mem_cons, List.not_mem_nil, or_false] at hu
  rcases hu with rfl | rfl | rfl <;> rfl⟩
structure RmRd (W : World) (l : List Res) (x : Rm) : Prop where
  es : Rd W l x.es 2 (elEn.flat x.el)
  en : ∀ y ∈ x.el, Rd W l y.s 1 (y.d.map vB)
  sn : Rd W l x.ss 1 (x.snap.map vB)
def DsRd (W : World) (l : List Res) (s : Sl) (bl : List Dc) : Prop := Rd W l s 9 (elDc.flat bl) ∧ ∀ d ∈ bl, VRd W l d
structure MRd (W : World) (l : List Res) (m : Ms) : Prop where
  rf : RmRd W l m.rf
  fd : DsRd W l m.fd.bs m.fd.bl
  cd : Rd W l m.cd.ls 1 (m.cd.li.map vI)
  bt : VRd W l m.bt
  mi : Rd W l m.ms 1 (m.mi.map vI)
  bl : DsRd W l m.bs m.bl
  al : Rd W l m.av 3 (elAb.flat m.al)
theorem RmRd.cons {W : World} {l : List Res} {R : Res} {x : Rm} (h : RmRd W l x) : RmRd W (R :: l) x := ⟨h.es.cons, fun y hy => (h.en y hy).cons, h.sn.cons⟩
theorem DsRd.cons {W : World} {l : List Res} {R : Res} {s : Sl} {bl : List Dc} (h : DsRd W l s bl) : DsRd W (R :: l) s bl := ⟨h.1.cons, fun d hd => (h.2 d hd).cons⟩
theorem MRd.cons {W : World} {l : List Res} {R : Res} {m : Ms} (h : MRd W l m) : MRd W (R :: l) m := ⟨h.rf.cons, h.fd.cons, h.cd.cons, h.bt.cons, h.mi.cons, h.bl.cons, h.al.cons⟩
theorem RdC.elen {α : Type} {E : El α} {w : World} {s : Sl} {xs : List α} (h : RdC w s E.sz (E.flat xs)) (h0 : 0 < E.sz) : s.len = xs.length := by
  have := h.1
  rw [flat_length] at this
  exact (Nat.eq_of_mul_eq_mul_right h0 this).symm
/-- the writer of messages -/
def WwR (b bw : Nat) (s : Ly) : Res := All [Blk b [.pointer (some ⟨bw, 0, none⟩), .int .i64 s.e] T_wire_writer, WrR bw s.o s.l]
section
variable {W w : World} {l : List Res} {K : Value → World → Prop} {b bw : Nat} {s : Ly}
theorem sat_ww : Sat W w (WwR b bw s :: l) ↔ Sat W w (Blk b [.pointer (some ⟨bw, 0, none⟩), .int .i64 s.e] T_wire_writer :: WrR bw s.o s.l :: l) := sat_all
theorem wwPtr (h : Sat W w (WwR b bw s :: l)) {K : Option Addr → Prop} (hK : K (some ⟨bw, 0, none⟩)) : RunQ .ptr P (Instr.loadAt T_p_codec_Writer (.pointer (some ((⟨b, 0, none⟩ : Addr).add 0)))) w K :=
  ldB (sat_ww.1 h) (x := some ⟨bw, 0, none⟩) hK
theorem hwwPtr {S : World → Prop} (hS : ∀ w, S w → ∃ s l, Sat W w (WwR b bw s :: l)) {K : Option Addr → Prop} (hK : K (some ⟨bw, 0, none⟩)) : HRun S .ptr P (Instr.loadAt T_p_codec_Writer (.pointer (some ((⟨b, 0, none⟩ : Addr).add 0)))) K :=
  ⟨some ⟨bw, 0, none⟩, fun w hw => by
    obtain ⟨s, l, h⟩ := hS w hw
    exact run_load1 (by kernel_rfl) (by rw [add_add, (sat_ww.1 h).cell]; rfl), hK⟩
theorem ww_back {s' : Ly} (h : Sat W w (WrR bw s'.o s'.l :: Blk b [.pointer (some ⟨bw, 0, none⟩), .int .i64 s.e] T_wire_writer :: l)) (he : s'.e = s.e) : Sat W w (WwR b bw s' :: l) := by
  refine sat_ww.2 ?_
  rw [he]
  exact h.swap
theorem wwInt_ok {n : Int} (h : Sat W w (WwR b bw s :: l)) (hn : okI n) (hlen : s.o.length + 10 ≤ 140737488355328)
    (hK : ∀ w', Sat W w' (WwR b bw (s.add (lyO (intB n))) :: l) → K (.tuple #[]) w') : CallP P F_codec_Writer_Int [.pointer (some ⟨bw, 0, none⟩), .int .i64 n] w K :=
  wInt_ok (sat_ww.1 h).swap hn.1 hn.2 hlen fun w' h' => hK w' (ww_back (s := s) (s' := s.add (lyO (intB n))) (by simp only [Ly.add, lyO, or0_r]; exact h') (or0_r _))
theorem wwUint_ok {n : Int} (h : Sat W w (WwR b bw s :: l)) (h0 : 0 ≤ n) (h1 : n < 18446744073709551616) (hlen : s.o.length + 10 ≤ 140737488355328)
    (hK : ∀ w', Sat W w' (WwR b bw (s.add (lyO (uintB n.toNat))) :: l) → K (.tuple #[]) w') : CallP P F_codec_Writer_Uint [.pointer (some ⟨bw, 0, none⟩), .int .u64 n] w K :=
  wUint_ok (sat_ww.1 h).swap h0 h1 hlen fun w' h' => hK w' (ww_back (s := s) (s' := s.add (lyO (uintB n.toNat))) (by simp only [Ly.add, lyO, or0_r]; exact h') (or0_r _))
theorem wwFlag_ok {f : Bool} (h : Sat W w (WwR b bw s :: l)) (hlen : s.o.length + 10 ≤ 140737488355328)
    (hK : ∀ w', Sat W w' (WwR b bw (s.add (lyO (flagB f))) :: l) → K (.tuple #[]) w') : CallP P F_codec_Writer_Flag [.pointer (some ⟨bw, 0, none⟩), .bool f] w K :=
  wFlag_ok (sat_ww.1 h).swap hlen fun w' h' => hK w' (ww_back (s := s) (s' := s.add (lyO (flagB f))) (by simp only [Ly.add, lyO, or0_r]; exact h') (or0_r _))
theorem wErr_or (e : Int) (n : Nat) : wErr e n = or0 e (if n > 4096 then 2 else 0) := by
  unfold wErr or0
  by_cases h1 : e = 0 <;> by_cases h2 : n > 4096 <;> simp [h1, h2]
theorem wwBytes_ok {n : List UInt8} {x : Sl} (h : Sat W w (WwR b bw s :: l)) (hx : Rd W l x 1 (n.map vB)) (hlen : s.o.length + 10 + n.length ≤ 140737488355328)
    (hK : ∀ w', Sat W w' (WwR b bw (s.add (lyB n)) :: l) → K (.tuple #[]) w') : CallP P F_codec_Writer_Bytes [.pointer (some ⟨bw, 0, none⟩), x.v] w K :=
  wBytes_ok (sat_ww.1 h).swap hx.cons hlen fun w' h' => hK w' (ww_back (s := s) (s' := s.add (lyB n)) (by simp only [Ly.add, lyB]; rw [← wErr_or]; exact h') (or0_r _))
theorem wwInts_ok {n : List Int} {x : Sl} (h : Sat W w (WwR b bw s :: l)) (hx : Rd W l x 1 (n.map vI)) (hn : ∀ i ∈ n, okI i) (hlen : s.o.length + 10 + 10 * n.length ≤ 140737488355328)
    (hK : ∀ w', Sat W w' (WwR b bw (s.add (lyO (intsB n))) :: l) → K (.tuple #[]) w') : CallP P F_codec_Writer_Ints [.pointer (some ⟨bw, 0, none⟩), x.v] w K :=
  wInts_ok (sat_ww.1 h).swap hx.cons hn hlen fun w' h' => hK w' (ww_back (s := s) (s' := s.add (lyO (intsB n))) (by simp only [Ly.add, lyO, or0_r]; exact h') (or0_r _))
theorem wfail17_ok {x : Int} (h : Sat W w (WwR b bw s :: l)) (hK : ∀ w', Sat W w' (WwR b bw (s.add (lyE x)) :: l) → K (.tuple #[]) w') :
    CallP P F_wire_writer_fail [.pointer (some ⟨b, 0, none⟩), .int .i64 x] w K := by
  apply c_wire_writer_fail
  unfold S_wire_writer_fail
  simp only [nilCk]
  have h1 := sat_ww.1 h
  refine ldB h1 (i := 1) (x := s.e) ?_
  refine ifB_beq (fun he => ?_) fun hne => ?_
  · refine stB h1 (i := 1) fun w2 h2 => hK w2 (sat_ww.2 ?_)
    simp only [Ly.add, lyE, List.append_nil, or0_r, he, or0_0]
    exact h2
  · refine hK w (sat_ww.2 ?_)
    simp only [Ly.add, lyE, List.append_nil, or0_r, or0_l hne]
    exact h1
theorem wints17_ok {n : List Int} {x : Sl} (h : Sat W w (WwR b bw s :: l)) (hx : Rd W l x 1 (n.map vI)) (hn : ∀ i ∈ n, okI i) (hlen : s.o.length + 10 + 10 * n.length ≤ 140737488355328)
    (hK : ∀ w', Sat W w' (WwR b bw (s.add (lyO (n.flatMap intB))) :: l) → K (.tuple #[]) w') : CallP P F_wire_writer_ints [.pointer (some ⟨b, 0, none⟩), x.v] w K := by
  apply c_wire_writer_ints
  unfold S_wire_writer_ints
  simp only [nilCk]
  have hxl := (hx w h.tail).1
  simp at hxl
  refine ⟨fun t w' => ∃ k : Nat, t.1 = k ∧ k ≤ n.length ∧ Sat W w' (WwR b bw (s.add (lyO ((n.take k).flatMap intB))) :: l), fun t _ => n.length - t.1.toNat, ⟨0, rfl, by omega, by simp only [List.take_zero, List.flatMap_nil]; rw [show lyO [] = ly0 from rfl, Ly.add_0]; exact h⟩, ?_⟩
  rintro ⟨i, u⟩ w2 ⟨k, hk, hkn, h2⟩
  simp only at hk ⊢
  subst hk
  refine ifB_dec (fun hc => ?_) fun hc => ?_
  · have hlt : k < n.length := by omega
    refine ixld et_ints (hx w2 h2.tail) (by omega) (k := .int .i64) (x := n[k]) (by simp [vI, hlt]) ?_
    refine wwPtr h2 ?_
    have hb := hn n[k] (by simp)
    have hl := ints_len (l := n.take k) fun i hi => hn i (List.mem_of_mem_take hi)
    rw [List.length_take] at hl
    refine wwInt_ok h2 hb (by simp only [Ly.add, lyO, List.length_append]; omega) fun w3 h3 => tupU rfl ?_
    rw [w_i64 (by omega) (by omega)]
    refine ⟨⟨k + 1, rfl, by omega, ?_⟩, by omega⟩
    rw [List.take_succ_eq_append_getElem hlt, List.flatMap_append]
    rw [Ly.add_assoc] at h3
    simpa [Ly.add, lyO, or0] using h3
  · have : k = n.length := by omega
    subst this
    rw [List.take_length] at h2
    exact hK w2 h2
theorem wcount_ok {n : Nat} (h : Sat W w (WwR b bw s :: l)) (hn : n < 2 ^ 63) (hlen : s.o.length + 10 ≤ 140737488355328)
    (hK : ∀ w', Sat W w' (WwR b bw (s.add (lyN n)) :: l) → K (.tuple #[]) w') : CallP P F_wire_writer_count [.pointer (some ⟨b, 0, none⟩), .int .i64 (n : Int)] w K := by
  apply c_wire_writer_count
  unfold S_wire_writer_count
  simp only [nilCk]
  refine ⟨fun _ w' => Sat W w' (WwR b bw (s.add (lyE (if n > 512 then 2 else 0))) :: l), ?_, ?_⟩
  · rintro _ w2 h2
    refine wwPtr h2 ?_
    rw [w_u64 (by omega) (by omega)]
    refine wwUint_ok h2 (by omega) (by omega) (by simpa only [Ly.add, lyE, List.append_nil] using hlen) fun w3 h3 => tupU rfl (hK w3 ?_)
    rw [Ly.add_assoc] at h3
    simpa [Ly.add, lyE, lyO, lyN, or0_r] using h3
  · refine ifB_dec (fun hc => ?_) fun hc => ?_
    · refine wfail17_ok h fun w2 h2 => tupU rfl ?_
      rw [if_pos (by omega)]; exact h2
    · rw [if_neg (by omega), show lyE 0 = ly0 from rfl, Ly.add_0]; exact h
end
end Go.Proofs.Ytokogdigfohbeaa

/- Layer 17: the writer of messages, part by part. -/
namespace Go.Proofs.Ytokogdigfohbeaa
open Go Go.Pk
theorem lyDs_take {l : List Dc} (hn : ∀ d ∈ l, d.num) (i : Nat) : (lyL lyD (l.take i)).o.length ≤ 2010 * l.length := by
  have h2 := lyL_len (f := lyD) (g := fun _ => 1) (c := 2010) (l := l.take i) fun x hx => by have := lyD_len (hn x (List.mem_of_mem_take hx)); omega
  rw [wsum_one, List.length_take] at h2
  have : min i l.length ≤ l.length := Nat.min_le_right _ _
  omega
theorem lyEs_take {l : List En17} (hn : ∀ y ∈ l, okI y.t) (i : Nat) : (lyL lyEn (l.take i)).o.length ≤ 20 * wsum (fun y => y.d.length + 1) l := by
  have h2 := lyL_len (f := lyEn) (g := fun y => y.d.length + 1) (c := 20) (l := l.take i) fun x hx => lyEn_len (hn x (List.mem_of_mem_take hx))
  have := wsum_take (fun y : En17 => y.d.length + 1) l i
  omega
theorem lyAb_len {x : Ab} (h : x.num) : (lyAb x).o.length ≤ 30 := by
  have h1 := uintB_len10 x.pid.toNat (by have := h.1; omega)
  have h2 := intB_len h.2.1
  have h3 := intB_len h.2.2
  simp only [lyAb, lyO, List.length_append]; omega
theorem lyAs_take {l : List Ab} (hn : ∀ y ∈ l, y.num) (i : Nat) : (lyL lyAb (l.take i)).o.length ≤ 30 * l.length := by
  have h2 := lyL_len (f := lyAb) (g := fun _ => 1) (c := 30) (l := l.take i) fun x hx => by have := lyAb_len (hn x (List.mem_of_mem_take hx)); omega
  rw [wsum_one, List.length_take] at h2
  have : min i l.length ≤ l.length := Nat.min_le_right _ _
  omega
section
variable {W w : World} {l : List Res} {K : Value → World → Prop} {b bw : Nat} {s : Ly}
theorem wbatch_ok {d : Dc} (h : Sat W w (WwR b bw s :: l)) (hn : d.num) (hv : VRd W l d) (hlen : s.o.length + 2010 ≤ 140737488355328)
    (hK : ∀ w', Sat W w' (WwR b bw (s.add (lyD d)) :: l) → K (.tuple #[]) w') : CallP P F_wire_writer_batch [.pointer (some ⟨b, 0, none⟩), .agg d.cells.toArray] w K := by
  apply c_wire_writer_batch
  unfold S_wire_writer_batch
  simp only [nilCk]
  refine boxB h fun g w1 h1 => ?_
  have hA : Sat W w1 (Blk g d.cells T_api_Batch :: WwR b bw s :: l) := h1
  have hl := hv.len h.tail
  refine ⟨fun _ w' => ¬ d.no ∧ Sat W w' (Blk g d.cells T_api_Batch :: WwR b bw s :: l), ?_, ?_⟩
  · rintro _ w2 ⟨hno, h2⟩
    refine ldAggB h2 (by kernel_rfl) ?_
    refine encode_all h2 hn hv.cons.cons fun t w3 h3 => tup2 ?_
    have hlb := eB_len hn
    refine ⟨fun _ w' => Sat W w' (WwR b bw (s.add (lyE (chk d))) :: BsR t (eB d) :: l), ?_, ?_⟩
    · rintro _ w4 h4
      refine wwPtr h4 ?_
      refine wwBytes_ok h4 Rd.own (by simp only [Ly.add, lyE, List.append_nil]; omega) fun w5 h5 => tupU rfl (hK w5 ?_)
      have e : (s.add (lyE (chk d))).add (lyB (eB d)) = s.add (lyD d) := by
        rw [Ly.add_assoc]
        congr 1
        unfold lyD
        rw [if_neg hno]
        simp only [Ly.add, lyE, lyB, or0_r, List.nil_append, or0_0]
        rw [if_neg (by omega)]
      rw [e] at h5
      exact h5.drop2
    · have h3' : Sat W w3 (WwR b bw s :: BsR t (eB d) :: l) := (h3.cut 1).swap
      refine ifB_bne (fun hne => ?_) fun he => ?_
      · exact wfail17_ok h3' fun w4 h4 => tupU rfl h4
      · have he' : chk d = 0 := he
        rw [he', show lyE 0 = ly0 from rfl, Ly.add_0]; exact h3'
  · refine ldB hA (o := 0) (i := 8) (x := d.vs) ?_
    refine ifB_beq (fun h0 => ?_) fun h0 => ⟨fun hno => h0 (by rw [hl.1, hno.1]; rfl), hA⟩
    refine ldB hA (o := 0) (i := 6) (x := d.ct) ?_
    have hb : d.bs = [] := List.eq_nil_of_length_eq_zero (by omega)
    cases hc : d.ct
    · simp only [Bool.not_false, ifB_true]
      have hno : d.no := ⟨hb, hc⟩
      refine wwPtr hA.tail ?_
      refine wwBytes_ok (n := []) (x := ⟨none, 0, 0⟩) hA.tail (Rd.nil rfl) (by simp only [List.length_nil]; omega) fun w2 h2 => tupU rfl (hK w2 ?_)
      have e : lyD d = lyB [] := by unfold lyD; rw [if_pos hno]; rfl
      rw [e]; exact h2
    · simp only [Bool.not_true, ifB_false]
      exact ⟨fun hno => (by rw [hno.2] at hc; cases hc), hA⟩
theorem wbatches_ok {x : Sl} {bl : List Dc} (h : Sat W w (WwR b bw s :: l)) (hn : ∀ d ∈ bl, d.num) (hv : DsRd W l x bl) (hlen : s.o.length + 2020 + 2010 * bl.length ≤ 140737488355328)
    (hK : ∀ w', Sat W w' (WwR b bw (s.add (lyDs bl)) :: l) → K (.tuple #[]) w') : CallP P F_wire_writer_batches [.pointer (some ⟨b, 0, none⟩), x.v] w K := by
  apply c_wire_writer_batches
  unfold S_wire_writer_batches
  have hxl : x.len = bl.length := RdC.elen (E := elDc) (hv.1 w h.tail) (by decide)
  have h10 := uintB_len10 bl.length (by omega)
  rw [hxl]
  refine wcount_ok h (by omega) (by omega) fun w1 h1 => tupU rfl ?_
  refine ⟨fun t w' => ∃ k : Nat, t.1 = k ∧ k ≤ bl.length ∧ Sat W w' (WwR b bw ((s.add (lyN bl.length)).add (lyL lyD (bl.take k))) :: l), fun t _ => bl.length - t.1.toNat, ⟨0, rfl, by omega, by simp only [List.take_zero, lyL]; rw [Ly.add_0]; exact h1⟩, ?_⟩
  rintro ⟨i, u⟩ w2 ⟨k, hk, hkn, h2⟩
  simp only at hk ⊢
  subst hk
  refine ifB_dec (fun hc => ?_) fun hc => ?_
  · have hlt : k < bl.length := by omega
    refine ixEl (E := elDc) (xs := bl) et_batches rfl (hv.1 w2 h2.tail) (x := bl[k]) (by omega) (by simp [hlt]) (by simp; omega) fun a ha => ?_
    refine ldAggC (cs := bl[k].cells) ha ?_
    refine newAgg (z := zeroDc.cells) h2 (Dc.ones _) fun g w3 h3 => ?_
    refine ldAggB h3 (by kernel_rfl) ?_
    have hd := hn bl[k] (List.getElem_mem hlt)
    have hlk := lyDs_take hn k
    refine wbatch_ok h3.swap hd (hv.2 _ (List.getElem_mem hlt)).cons (by simp only [Ly.add, lyN, List.length_append]; omega) fun w4 h4 => tupU rfl ?_
    rw [w_i64 (by omega) (by omega)]
    refine ⟨⟨k + 1, rfl, by omega, ?_⟩, by omega⟩
    rw [lyL_snoc lyD hlt, ← Ly.add_assoc]
    exact h4.drop2
  · have : k = bl.length := by omega
    subst this
    rw [List.take_length, Ly.add_assoc] at h2
    exact hK w2 h2
theorem wimage_ok {c : Cd} (h : Sat W w l) (hn : c.num) (hv : Rd W l c.ls 1 (c.li.map vI))
    (hK : ∀ t w', Sat W w' (BsR t (if cdE c = 0 then encCd c.d else []) :: l) → K (.tuple #[t.v, .int .i64 (cdE c)]) w') : CallP P F_image_Encode [.agg c.cells.toArray] w K := by
  apply c_image_Encode
  unfold S_image_Encode
  refine boxB h fun g w1 h1 => ?_
  have hA : Sat W w1 (Blk g c.cells T_api_Cmd :: l) := h1
  have hl := (hv w h).1
  simp at hl
  refine ⟨fun _ w' => cdE c = 0 ∧ Sat W w' (Blk g c.cells T_api_Cmd :: l), ?_, ?_⟩
  · rintro _ w2 ⟨he, h2⟩
    have h5 := cdDE0 (x := c.d) he
    have h6 : c.li.length ≤ 5 := h5.1
    obtain ⟨n1, n2, n3, n4, n5, n6⟩ := hn
    refine newWriter_ok h2 fun p w3 h3 => tyI ?_
    refine ldB h3.swap (o := 0) ?_
    refine ldB h3.swap (o := 0) ?_
    refine ldB h3.swap (o := 0) ?_
    refine ldB h3.swap (o := 0) ?_
    refine ldB h3.swap (o := 0) ?_
    have hns : ∀ i ∈ c.d.1, okI i := fun i hi => by
      simp only [Cd.d, List.mem_cons, List.not_mem_nil, or_false] at hi
      rcases hi with rfl | rfl | rfl | rfl | rfl <;> assumption
    refine bsB h3 (cs := c.d.1.map vI) (e := T_int) (fun w => by kernel_rfl) fun g2 w4 h4 => ?_
    refine ⟨fun t w' => ∃ k : Nat, t.1 = k ∧ k ≤ 5 ∧ Sat W w' (WrR p ((c.d.1.take k).flatMap intB) 0 :: Blk g2 (c.d.1.map vI) T_int :: Blk g c.cells T_api_Cmd :: l), fun t _ => 5 - t.1.toNat, ⟨0, rfl, by omega, h4.swap⟩, ?_⟩
    rintro ⟨i, u⟩ w5 ⟨k, hk, hkn, h5⟩
    simp only at hk ⊢
    subst hk
    have hll := ints_len (l := c.d.1.take k) fun i hi => hns i (List.mem_of_mem_take hi)
    have h51 : c.d.1.length = 5 := rfl
    rw [List.length_take, h51] at hll
    refine ifB_dec (fun hc => ?_) fun hc => ?_
    · have hlt : k < c.d.1.length := by rw [h51]; omega
      refine ixld et_ints (rdBlk (h5.up 1) (n := 5) (sz := 1) rfl) (by omega) (k := .int .i64) (x := c.d.1[k]) (by exact getElem?_vI hlt) ?_
      have hb := hns c.d.1[k] (List.getElem_mem hlt)
      refine wInt_ok h5 hb.1 hb.2 (by omega) fun w6 h6 => tupU rfl ?_
      rw [w_i64 (by omega) (by omega)]
      refine ⟨⟨k + 1, rfl, by omega, ?_⟩, by omega⟩
      rw [List.take_succ_eq_append_getElem hlt, List.flatMap_append]
      simpa using h6
    · have : k = 5 := by omega
      subst this
      refine ldB (h5.up 2) (o := 0) (i := 5) (x := c.ls) ?_
      refine wInts_ok h5 hv.cons.cons n6 (by omega) fun w6 h6 => tupU rfl ?_
      have hel := encCd_len (cd_ok ⟨n1, n2, n3, n4, n5, n6⟩ (by omega)) (by show c.li.length ≤ 5; omega)
      have e5 : (c.d.1.take 5).flatMap intB ++ intsB c.li = encCd c.d := rfl
      rw [e5] at h6
      refine wOut0_ok h6 (by omega) fun t w7 h7 => tup2 ?_
      have := hK t w7
      rw [he, if_pos rfl] at this
      exact this (((h7.cut 1).cut 1).cut 1)
  · have bad : cdE c ≠ 0 → ∀ w', Sat W w' (Blk g c.cells T_api_Cmd :: l) → K (.tuple #[.slice none 0 0, .int .i64 1]) w' := fun hne w' h' => by
      have := hK ⟨none, 0, 0⟩ w' (by rw [if_neg hne]; exact Sat.nilSlr h'.tail T_uint8 1)
      have h1 : cdE c = 1 := by
        unfold cdE at hne ⊢
        split
        · rfl
        · rename_i h2; rw [if_neg h2] at hne; exact absurd rfl hne
      rwa [h1] at this
    have mk : (c.k < 1 ∨ c.k > 5 ∨ c.li.length > 5) → cdE c ≠ 0 := fun hb => by unfold cdE; rw [if_pos hb]; decide
    refine ldB hA (o := 0) (i := 0) (x := c.k) ?_
    refine ifB_dec (fun hb => bad (mk (.inl hb)) _ hA) fun hb1 => ?_
    refine ldB hA (o := 0) (i := 0) (x := c.k) ?_
    refine ifB_dec (fun hb => bad (mk (.inr (.inl hb))) _ hA) fun hb2 => ?_
    refine ldB hA (o := 0) (i := 5) (x := c.ls) ?_
    refine ifB_dec (fun hb => bad (mk (.inr (.inr (by omega)))) _ hA) fun hb3 => ⟨?_, hA⟩
    unfold cdE
    rw [if_neg (by omega)]
theorem Rm.ones (x : Rm) : ∀ u ∈ x.cells, u.oneCell' = true := by
  intro u hu
  simp only [Rm.cells, List.mem_cons, List.not_mem_nil, or_false] at hu
  rcases hu with rfl | rfl | rfl | rfl | rfl | rfl | rfl | rfl | rfl | rfl <;> rfl
theorem Fd.ones (x : Fd) : ∀ u ∈ x.cells, u.oneCell' = true := by
  intro u hu
  simp only [Fd.cells, List.mem_cons, List.not_mem_nil, or_false] at hu
  rcases hu with rfl | rfl | rfl | rfl | rfl | rfl | rfl | rfl | rfl | rfl <;> rfl
theorem wraft_ok {m : Rm} (h : Sat W w (WwR b bw s :: l)) (hn : m.num) (hv : RmRd W l m) (hlen : s.o.length + 200 + 20 * m.wt ≤ 140737488355328)
    (hK : ∀ w', Sat W w' (WwR b bw (s.add (lyRf m)) :: l) → K (.tuple #[]) w') : CallP P F_wire_writer_raft [.pointer (some ⟨b, 0, none⟩), .agg m.cells.toArray] w K := by
  apply c_wire_writer_raft
  unfold S_wire_writer_raft
  simp only [nilCk]
  refine boxB h fun g w1 h1 => ?_
  have hA : Sat W w1 (Blk g m.cells T_api_RMsg :: WwR b bw s :: l) := h1
  refine ldB hA (o := 0) ?_
  refine ldB hA (o := 0) ?_
  refine ldB hA (o := 0) ?_
  refine ldB hA (o := 0) ?_
  refine ldB hA (o := 0) ?_
  refine ldB hA (o := 0) ?_
  refine ldB hA (o := 0) ?_
  have hw : m.wt = wsum (fun y : En17 => y.d.length + 1) m.el + m.snap.length := rfl
  have hel : m.el.length ≤ wsum (fun y : En17 => y.d.length + 1) m.el := wsum_len (fun x => by omega) _
  have hl7 := ints_len (l := m.ns) hn.1
  have h7 : m.ns.length = 7 := rfl
  have h10 := uintB_len10 m.el.length (by omega)
  have hxl : m.es.len = m.el.length := RdC.elen (E := elEn) (hv.es w h.tail) (by decide)
  refine bsB hA (cs := m.ns.map vI) (e := T_int) (fun w => by kernel_rfl) fun g2 w2 h2 => ?_
  refine wints17_ok (n := m.ns) (h2.up 2) (Rd.blk rfl) hn.1 (by omega) fun w3 h3 => tupU rfl ?_
  have h3' : Sat W w3 (WwR b bw (s.add (lyO (m.ns.flatMap intB))) :: Blk g m.cells T_api_RMsg :: l) := h3.cut 1
  refine ⟨fun w => ∃ s, Sat W w (WwR b bw s :: Blk g m.cells T_api_RMsg :: l), ⟨_, h3'.drew⟩, ?_⟩
  refine hwwPtr (fun w hw => ⟨_, _, hw.choose_spec⟩) ?_
  refine hldB (W := W) (fun w hw => ⟨_, hw.choose_spec.up 1⟩) (o := 0) (i := 7) (x := m.rej) ?_
  have hfl := flagB_len m.rej
  refine wwFlag_ok h3'.drew (by simp only [Ly.add, lyO, List.length_append]; omega) fun w4 h4 => tupU rfl ⟨⟨_, h4⟩, ?_⟩
  refine ldB (h4.up 1) (o := 0) (i := 8) (x := m.es) ?_
  rw [hxl]
  refine wcount_ok h4 (by omega) (by simp only [Ly.add, lyO, List.length_append]; omega) fun w5 h5 => tupU rfl ?_
  refine ldB (h5.up 1) (o := 0) (i := 8) (x := m.es) ?_
  refine ⟨fun t w' => ∃ k : Nat, t.1 = k ∧ k ≤ m.el.length ∧ Sat W w' (WwR b bw ((((s.add (lyO (m.ns.flatMap intB))).add (lyO (flagB m.rej))).add (lyN m.el.length)).add (lyL lyEn (m.el.take k))) :: Blk g m.cells T_api_RMsg :: l), fun t _ => m.el.length - t.1.toNat, ⟨0, rfl, by omega, by simp only [List.take_zero, lyL]; rw [Ly.add_0]; exact h5⟩, ?_⟩
  rintro ⟨i, u⟩ w6 ⟨k, hk, hkn, h6⟩
  simp only at hk ⊢
  subst hk
  have hlk := lyEs_take hn.2 k
  refine ifB_dec (fun hc => ?_) fun hc => ?_
  · have hlt : k < m.el.length := by omega
    refine ixEl (E := elEn) (xs := m.el) et_ents rfl (hv.es w6 h6.tail.tail) (x := m.el[k]) (by omega) (by simp [hlt]) (by simp; omega) fun a ha => ?_
    refine ldAggC (cs := m.el[k].cells) ha ?_
    refine newAgg (z := [.int .i64 0, .slice none 0 0]) h6 (elEn.one _) fun g3 w7 h7 => ?_
    have hm : m.el[k] ∈ m.el := List.getElem_mem hlt
    have h7' := h7.up 1
    refine ⟨fun w => ∃ s, Sat W w (WwR b bw s :: Blk g3 m.el[k].cells T_api_Entry :: Blk g m.cells T_api_RMsg :: l), ⟨_, h7'.drew⟩, ?_⟩
    refine hwwPtr (fun w hw => ⟨_, _, hw.choose_spec⟩) ?_
    refine hldB (W := W) (fun w hw => ⟨_, hw.choose_spec.up 1⟩) (o := 0) (i := 0) (x := m.el[k].t) ?_
    have hek : wsum (fun y : En17 => y.d.length + 1) (m.el.take k) + (m.el[k].d.length + 1) ≤ wsum (fun y : En17 => y.d.length + 1) m.el := by
      have h1 := wsum_take (fun y : En17 => y.d.length + 1) m.el (k + 1)
      rw [List.take_succ_eq_append_getElem hlt] at h1
      have : ∀ (a : List En17) (x : En17), wsum (fun y : En17 => y.d.length + 1) (a ++ [x]) = wsum (fun y : En17 => y.d.length + 1) a + (x.d.length + 1) := by
        intro a x
        induction a with
        | nil => simp [wsum]
        | cons y a ih => simp only [List.cons_append, wsum, ih]; omega
      rw [this] at h1
      exact h1
    have hlk2 := lyL_len (f := lyEn) (g := fun y => y.d.length + 1) (c := 20) (l := m.el.take k) fun x hx => lyEn_len (hn.2 x (List.mem_of_mem_take hx))
    have hik := intB_len (hn.2 _ hm)
    refine wwInt_ok h7'.drew (hn.2 _ hm) (by simp only [Ly.add, lyO, lyN, List.length_append]; omega) fun w8 h8 => tupU rfl ⟨⟨_, h8⟩, ?_⟩
    refine ⟨fun w => ∃ s, Sat W w (WwR b bw s :: Blk g3 m.el[k].cells T_api_Entry :: Blk g m.cells T_api_RMsg :: l), ⟨_, h8.drew⟩, ?_⟩
    refine hwwPtr (fun w hw => ⟨_, _, hw.choose_spec⟩) ?_
    refine hldB (W := W) (fun w hw => ⟨_, hw.choose_spec.up 1⟩) (o := 0) (i := 1) (x := m.el[k].s) ?_
    refine wwBytes_ok h8.drew (hv.en _ hm).cons.cons (by simp only [Ly.add, lyO, lyN, List.length_append]; omega) fun w9 h9 => tupU rfl ⟨⟨_, h9⟩, ?_⟩
    rw [w_i64 (by omega) (by omega)]
    refine ⟨⟨k + 1, rfl, by omega, ?_⟩, by omega⟩
    have h9' := h9.cut 1
    rw [Ly.add_assoc, Ly.add_assoc] at h9'
    rw [lyL_snoc lyEn hlt]
    exact h9'
  · have : k = m.el.length := by omega
    subst this
    rw [List.take_length] at h6 hlk
    refine ⟨fun w => ∃ s, Sat W w (WwR b bw s :: Blk g m.cells T_api_RMsg :: l), ⟨_, h6.drew⟩, ?_⟩
    refine hwwPtr (fun w hw => ⟨_, _, hw.choose_spec⟩) ?_
    refine hldB (W := W) (fun w hw => ⟨_, hw.choose_spec.up 1⟩) (o := 0) (i := 9) (x := m.ss) ?_
    refine wwBytes_ok h6.drew hv.sn.cons (by simp only [Ly.add, lyO, lyN, List.length_append]; omega) fun w7 h7 => tupU rfl ⟨⟨_, h7⟩, hK w7 ?_⟩
    simp only [Ly.add_assoc] at h7
    exact h7.cut 1
end
end Go.Proofs.Ytokogdigfohbeaa

/- Layer 17: a message is written. -/
namespace Go.Proofs.Ytokogdigfohbeaa
open Go Go.Pk
def Ms.w (m : Ms) : Nat := 1000 + 20 * m.rf.wt + 2010 * m.fd.bl.length + 10 * m.mi.length + 2010 * m.bl.length + 30 * m.al.length
theorem Ms.ones (m : Ms) : ∀ u ∈ m.cells, u.oneCell' = true := by
  intro u hu
  simp only [Ms.cells, List.mem_append] at hu
  rcases hu with hu | hu | hu | hu | hu | hu | hu
  · simp only [List.mem_cons, List.not_mem_nil, or_false] at hu
    rcases hu with rfl | rfl | rfl | rfl | rfl <;> rfl
  · exact Rm.ones _ u hu
  · simp only [Fq.cells, List.mem_cons, List.not_mem_nil, or_false] at hu
    rcases hu with rfl | rfl | rfl | rfl | rfl <;> rfl
  · exact Fd.ones _ u hu
  · simp only [Cd.cells, List.mem_cons, List.not_mem_nil, or_false] at hu
    rcases hu with rfl | rfl | rfl | rfl | rfl | rfl <;> rfl
  · exact Dc.ones _ u hu
  · simp only [List.mem_cons, List.not_mem_nil, or_false] at hu
    rcases hu with rfl | rfl | rfl | rfl | rfl | rfl | rfl | rfl | rfl | rfl | rfl | rfl | rfl | rfl <;> rfl
section
variable {W w : World} {l : List Res} {K : Value → World → Prop} {b bw : Nat} {s : Ly} {m : Ms}
theorem wclient_ok (h : Sat W w (WwR b bw s :: l)) (hn : m.num) (hv : MRd W l m) (hlen : s.o.length + 5000 + m.w ≤ 140737488355328)
    (hK : ∀ w', Sat W w' (WwR b bw (s.add (lyCl m)) :: l) → K (.tuple #[]) w') : CallP P F_wire_writer_client [.pointer (some ⟨b, 0, none⟩), .agg m.cells.toArray] w K := by
  apply c_wire_writer_client
  unfold S_wire_writer_client
  simp only [nilCk]
  have hmw : m.w = 1000 + 20 * m.rf.wt + 2010 * m.fd.bl.length + 10 * m.mi.length + 2010 * m.bl.length + 30 * m.al.length := rfl
  refine boxB h fun g w1 h1 => ?_
  have hA : Sat W w1 (Blk g m.cells T_api_Msg :: WwR b bw s :: l) := h1
  refine ldB hA (o := 0) (i := 45) (x := m.part) ?_
  refine ldB hA (o := 0) (i := 46) (x := m.offset) ?_
  refine ldB hA (o := 0) (i := 47) (x := m.tx) ?_
  refine ldB hA (o := 0) (i := 48) (x := m.inc) ?_
  refine ldB hA (o := 0) (i := 50) (x := m.epoch) ?_
  refine ldB hA (o := 0) (i := 52) (x := m.group) ?_
  refine ldB hA (o := 0) (i := 53) (x := m.gen) ?_
  refine ldB hA (o := 0) (i := 54) (x := m.member) ?_
  refine ldB hA (o := 0) (i := 58) (x := m.high) ?_
  have hl9 := ints_len (l := m.ns) hn.ns
  have h9 : m.ns.length = 9 := rfl
  have hlp := uintB_len10 m.pid.toNat (by have := hn.pid; omega)
  have hlf := flagB_len m.commit
  have hlm := uintB_len10 m.mi.length (by omega)
  have hlm2 := ints_len hn.mi
  have hld := lyD_len hn.bt
  have hlb := lyDs_len hn.bl (by omega)
  have hla := uintB_len10 m.al.length (by omega)
  refine bsB hA (cs := m.ns.map vI) (e := T_int) (fun w => by kernel_rfl) fun g2 w2 h2 => ?_
  refine wints17_ok (n := m.ns) (h2.up 2) (Rd.blk rfl) hn.ns (by omega) fun w3 h3 => tupU rfl ?_
  have h3' : Sat W w3 (WwR b bw (s.add (lyO (m.ns.flatMap intB))) :: Blk g m.cells T_api_Msg :: l) := h3.cut 1
  refine ⟨fun w => ∃ s, Sat W w (WwR b bw s :: Blk g m.cells T_api_Msg :: l), ⟨_, h3'.drew⟩, ?_⟩
  refine hwwPtr (fun w hw => ⟨_, _, hw.choose_spec⟩) ?_
  refine hldB (W := W) (fun w hw => ⟨_, hw.choose_spec.up 1⟩) (o := 0) (i := 49) (x := m.pid) ?_
  refine wwUint_ok h3'.drew hn.pid.1 hn.pid.2 (by simp only [Ly.add, lyO, List.length_append]; omega) fun w4 h4 => tupU rfl ⟨⟨_, h4⟩, ?_⟩
  refine ⟨fun w => ∃ s, Sat W w (WwR b bw s :: Blk g m.cells T_api_Msg :: l), ⟨_, h4.drew⟩, ?_⟩
  refine hwwPtr (fun w hw => ⟨_, _, hw.choose_spec⟩) ?_
  refine hldB (W := W) (fun w hw => ⟨_, hw.choose_spec.up 1⟩) (o := 0) (i := 51) (x := m.commit) ?_
  refine wwFlag_ok h4.drew (by simp only [Ly.add, lyO, List.length_append]; omega) fun w5 h5 => tupU rfl ⟨⟨_, h5⟩, ?_⟩
  have hml := ((hv.mi _ h5.tail.tail).1)
  simp at hml
  refine ⟨fun _ w' => Sat W w' (WwR b bw ((((s.add (lyO (m.ns.flatMap intB))).add (lyO (uintB m.pid.toNat))).add (lyO (flagB m.commit))).add (lyE (if m.mi.length > 512 then 2 else 0))) :: Blk g m.cells T_api_Msg :: l), ?_, ?_⟩
  · rintro _ w6 h6
    refine ⟨fun w => ∃ s, Sat W w (WwR b bw s :: Blk g m.cells T_api_Msg :: l), ⟨_, h6.drew⟩, ?_⟩
    refine hwwPtr (fun w hw => ⟨_, _, hw.choose_spec⟩) ?_
    refine hldB (W := W) (fun w hw => ⟨_, hw.choose_spec.up 1⟩) (o := 0) (i := 55) (x := m.ms) ?_
    refine wwInts_ok h6.drew hv.mi.cons hn.mi (by simp only [Ly.add, lyO, lyE, List.length_append, List.length_nil]; omega) fun w7 h7 => tupU rfl ⟨⟨_, h7⟩, ?_⟩
    rw [Ly.add_assoc _ (lyE _)] at h7
    have e7 : (lyE (if m.mi.length > 512 then 2 else 0)).add (lyO (intsB m.mi)) = lyMi m.mi := by simp [Ly.add, lyE, lyO, lyMi, or0_r, or0]
    rw [e7] at h7
    refine ldAggX 36 9 (h7.up 1) (hl := (by show 36 + 9 ≤ 59; decide)) ?_
    have hli : (intsB m.mi).length ≤ 10 + 10 * m.mi.length := by simp only [intsB, List.length_append]; omega
    refine wbatch_ok (d := m.bt) h7 hn.bt hv.bt.cons (by simp only [Ly.add, lyO, lyMi, List.length_append]; omega) fun w8 h8 => tupU rfl ?_
    refine ldB (h8.up 1) (o := 0) (i := 56) (x := m.bs) ?_
    refine wbatches_ok h8 hn.bl hv.bl.cons (by simp only [Ly.add, lyO, lyMi, List.length_append]; omega) fun w9 h9 => tupU rfl ?_
    refine ldB (h9.up 1) (o := 0) (i := 57) (x := m.av) ?_
    have hal : m.av.len = m.al.length := RdC.elen (E := elAb) (hv.al _ h9.tail.tail) (by decide)
    rw [hal]
    refine wcount_ok h9 (by omega) (by simp only [Ly.add, lyO, lyMi, List.length_append]; omega) fun w10 h10 => tupU rfl ?_
    refine ldB (h10.up 1) (o := 0) (i := 57) (x := m.av) ?_
    simp only [Ly.add_assoc] at h10
    refine ⟨fun t w' => ∃ k : Nat, t.1 = k ∧ k ≤ m.al.length ∧ Sat W w' (WwR b bw (s.add ((lyO (m.ns.flatMap intB)).add ((lyO (uintB m.pid.toNat)).add ((lyO (flagB m.commit)).add ((lyMi m.mi).add ((lyD m.bt).add ((lyDs m.bl).add ((lyN m.al.length).add (lyL lyAb (m.al.take k)))))))))) :: Blk g m.cells T_api_Msg :: l), fun t _ => m.al.length - t.1.toNat, ⟨0, rfl, by omega, by simp only [List.take_zero, lyL]; rw [Ly.add_0]; exact h10⟩, ?_⟩
    rintro ⟨i, u⟩ w11 ⟨k, hk, hkn, h11⟩
    simp only at hk ⊢
    subst hk
    have hlk := lyAs_take hn.al k
    refine ifB_dec (fun hc => ?_) fun hc => ?_
    · have hlt : k < m.al.length := by omega
      refine ixEl (E := elAb) (xs := m.al) et_aborts rfl (hv.al _ h11.tail.tail) (x := m.al[k]) (by omega) (by simp [hlt]) (by simp; omega) fun a ha => ?_
      refine ldAggC (cs := m.al[k].cells) ha ?_
      refine newAgg (z := [.int .u64 0, .int .i64 0, .int .i64 0]) h11 (elAb.one _) fun g3 w12 h12 => ?_
      have hm := hn.al _ (List.getElem_mem hlt)
      have q1 := uintB_len10 m.al[k].pid.toNat (by have := hm.1; omega)
      have q2 := intB_len hm.2.1
      have q3 := intB_len hm.2.2
      have h12' := h12.up 1
      refine ⟨fun w => ∃ s, Sat W w (WwR b bw s :: Blk g3 m.al[k].cells T_api_Abort :: Blk g m.cells T_api_Msg :: l), ⟨_, h12'.drew⟩, ?_⟩
      refine hwwPtr (fun w hw => ⟨_, _, hw.choose_spec⟩) ?_
      refine hldB (W := W) (fun w hw => ⟨_, hw.choose_spec.up 1⟩) (o := 0) (i := 0) (x := m.al[k].pid) ?_
      refine wwUint_ok h12'.drew hm.1.1 hm.1.2 (by simp only [Ly.add, lyO, lyMi, lyN, List.length_append]; omega) fun w13 h13 => tupU rfl ⟨⟨_, h13⟩, ?_⟩
      refine ⟨fun w => ∃ s, Sat W w (WwR b bw s :: Blk g3 m.al[k].cells T_api_Abort :: Blk g m.cells T_api_Msg :: l), ⟨_, h13.drew⟩, ?_⟩
      refine hwwPtr (fun w hw => ⟨_, _, hw.choose_spec⟩) ?_
      refine hldB (W := W) (fun w hw => ⟨_, hw.choose_spec.up 1⟩) (o := 0) (i := 1) (x := m.al[k].first) ?_
      refine wwInt_ok h13.drew hm.2.1 (by simp only [Ly.add, lyO, lyMi, lyN, List.length_append]; omega) fun w14 h14 => tupU rfl ⟨⟨_, h14⟩, ?_⟩
      refine ⟨fun w => ∃ s, Sat W w (WwR b bw s :: Blk g3 m.al[k].cells T_api_Abort :: Blk g m.cells T_api_Msg :: l), ⟨_, h14.drew⟩, ?_⟩
      refine hwwPtr (fun w hw => ⟨_, _, hw.choose_spec⟩) ?_
      refine hldB (W := W) (fun w hw => ⟨_, hw.choose_spec.up 1⟩) (o := 0) (i := 2) (x := m.al[k].last) ?_
      refine wwInt_ok h14.drew hm.2.2 (by simp only [Ly.add, lyO, lyMi, lyN, List.length_append]; omega) fun w15 h15 => tupU rfl ⟨⟨_, h15⟩, ?_⟩
      rw [w_i64 (by omega) (by omega)]
      refine ⟨⟨k + 1, rfl, by omega, ?_⟩, by omega⟩
      have h15' := h15.cut 1
      simp only [Ly.add_assoc] at h15'
      rw [lyL_snoc lyAb hlt]
      have e : (lyO (uintB m.al[k].pid.toNat)).add ((lyO (intB m.al[k].first)).add (lyO (intB m.al[k].last))) = lyAb m.al[k] := by simp [Ly.add, lyO, lyAb, or0]
      rw [e] at h15'
      exact h15'
    · have : k = m.al.length := by omega
      subst this
      rw [List.take_length] at h11
      exact hK w11 (h11.cut 1)
  · refine ldB (h5.up 1) (o := 0) (i := 55) (x := m.ms) ?_
    refine ifB_dec (fun hc => ?_) fun hc => ?_
    · refine wfail17_ok h5 fun w6 h6 => tupU rfl ?_
      rw [if_pos (by omega)]; exact h6
    · rw [if_neg (by omega), show lyE 0 = ly0 from rfl, Ly.add_0]; exact h5
theorem wrest_ok (h : Sat W w (WwR b bw s :: l)) (hn : m.num) (hv : MRd W l m) (hlen : s.o.length + 6000 + m.w ≤ 140737488355328)
    (hK : ∀ w', Sat W w' (WwR b bw (s.add (lyRest m)) :: l) → K (.tuple #[]) w') : CallP P F_wire_writer_rest [.pointer (some ⟨b, 0, none⟩), .agg m.cells.toArray] w K := by
  apply c_wire_writer_rest
  unfold S_wire_writer_rest
  simp only [nilCk]
  have hmw : m.w = 1000 + 20 * m.rf.wt + 2010 * m.fd.bl.length + 10 * m.mi.length + 2010 * m.bl.length + 30 * m.al.length := rfl
  refine boxB h fun g w1 h1 => ?_
  have hA : Sat W w1 (Blk g m.cells T_api_Msg :: WwR b bw s :: l) := h1
  refine ldB hA (o := 0) (i := 0) (x := m.kind) ?_
  refine ifB_beq (fun k1 => ?_) fun k1 => ?_
  · refine ldAggX 5 10 hA (hl := (by show 5 + 10 ≤ 59; decide)) ?_
    refine wraft_ok (m := m.rf) hA.swap hn.rf hv.rf.cons (by omega) fun w2 h2 => tupU rfl (hK w2 ?_)
    unfold lyRest
    rw [if_pos k1]
    exact h2.drop2
  refine ifB_beq (fun k2 => ?_) fun k2 => ?_
  · refine ldX hA 15 (x := m.fq.part) ?_
    refine ldX hA 16 (x := m.fq.epoch) ?_
    refine ldX hA 17 (x := m.fq.node) ?_
    refine ldX hA 18 (x := m.fq.offset) ?_
    refine ldX hA 19 (x := m.fq.le) ?_
    refine bsB hA (cs := m.fq.ns.map vI) (e := T_int) (fun w => by kernel_rfl) fun g2 w2 h2 => ?_
    refine wints17_ok (n := m.fq.ns) (h2.up 2) (Rd.blk rfl) hn.fq (by have : m.fq.ns.length = 5 := rfl; omega) fun w3 h3 => tupU rfl (hK w3 ?_)
    unfold lyRest
    rw [if_neg k1, if_pos k2]
    exact h3.drop2.drop2
  refine ifB_beq (fun k3 => ?_) fun k3 => ?_
  · refine ldAggX 20 10 hA (hl := (by show 20 + 10 ≤ 59; decide)) ?_
    refine newAgg (z := [.int .i64 0, .int .i64 0, .int .i64 0, .int .i64 0, .bool false, .int .i64 0, .int .i64 0, .int .i64 0, .int .i64 0, .slice none 0 0]) (cs := m.fd.cells) hA (Fd.ones _) fun g1 w2 h2 => ?_
    have h2' : Sat W w2 (Blk g1 m.fd.cells T_api_FetchReply :: WwR b bw s :: l) := h2.drop2
    refine ldB h2' (o := 0) (i := 0) (x := m.fd.part) ?_
    refine ldB h2' (o := 0) (i := 1) (x := m.fd.epoch) ?_
    refine ldB h2' (o := 0) (i := 2) (x := m.fd.e) ?_
    refine ldB h2' (o := 0) (i := 3) (x := m.fd.high) ?_
    refine ldB h2' (o := 0) (i := 5) (x := m.fd.ee) ?_
    refine ldB h2' (o := 0) (i := 6) (x := m.fd.en) ?_
    refine ldB h2' (o := 0) (i := 7) (x := m.fd.offset) ?_
    refine ldB h2' (o := 0) (i := 8) (x := m.fd.le) ?_
    have hl8 := ints_len (l := m.fd.ns) hn.fd.1
    have h8 : m.fd.ns.length = 8 := rfl
    have hlf := flagB_len m.fd.div
    refine bsB h2' (cs := m.fd.ns.map vI) (e := T_int) (fun w => by kernel_rfl) fun g2 w3 h3 => ?_
    refine wints17_ok (n := m.fd.ns) (h3.up 2) (Rd.blk rfl) hn.fd.1 (by omega) fun w4 h4 => tupU rfl ?_
    have h4' : Sat W w4 (WwR b bw (s.add (lyO (m.fd.ns.flatMap intB))) :: Blk g1 m.fd.cells T_api_FetchReply :: l) := h4.cut 1
    refine ⟨fun w => ∃ s, Sat W w (WwR b bw s :: Blk g1 m.fd.cells T_api_FetchReply :: l), ⟨_, h4'.drew⟩, ?_⟩
    refine hwwPtr (fun w hw => ⟨_, _, hw.choose_spec⟩) ?_
    refine hldB (W := W) (fun w hw => ⟨_, hw.choose_spec.up 1⟩) (o := 0) (i := 4) (x := m.fd.div) ?_
    refine wwFlag_ok h4'.drew (by simp only [Ly.add, lyO, List.length_append]; omega) fun w5 h5 => tupU rfl ⟨⟨_, h5⟩, ?_⟩
    refine ldB (h5.up 1) (o := 0) (i := 9) (x := m.fd.bs) ?_
    refine wbatches_ok h5 hn.fd.2 hv.fd.cons (by simp only [Ly.add, lyO, List.length_append]; omega) fun w6 h6 => tupU rfl (hK w6 ?_)
    unfold lyRest
    rw [if_neg k1, if_neg k2, if_pos k3]
    simp only [Ly.add_assoc] at h6
    exact h6.drop2
  refine ifB_beq (fun k4 => ?_) fun k4 => ?_
  · refine ldAggX 30 6 hA (hl := (by show 30 + 6 ≤ 59; decide)) ?_
    refine wimage_ok (c := m.cd) hA hn.cd hv.cd.cons.cons fun t w2 h2 => tup2 ?_
    have h2' : Sat W w2 (WwR b bw s :: BsR t (if cdE m.cd = 0 then encCd m.cd.d else []) :: l) := (h2.cut 1).swap
    refine ⟨fun _ w' => Sat W w' (WwR b bw (s.add (lyE (cdE m.cd))) :: BsR t (if cdE m.cd = 0 then encCd m.cd.d else []) :: l), ?_, ?_⟩
    · rintro _ w3 h3
      refine wwPtr h3 ?_
      have hll : (if cdE m.cd = 0 then encCd m.cd.d else []).length ≤ 200 := by
        split
        · rename_i he
          have h5 := cdDE0 (x := m.cd.d) he
          exact encCd_len (cd_ok hn.cd (by have h6 : m.cd.li.length ≤ 5 := h5.1; omega)) h5.1
        · simp
      refine wwBytes_ok h3 Rd.own (by simp only [Ly.add, lyE, List.append_nil]; omega) fun w4 h4 => tupU rfl (hK w4 ?_)
      unfold lyRest
      rw [if_neg k1, if_neg k2, if_neg k3, if_pos k4]
      rw [Ly.add_assoc] at h4
      have e0 : ∀ (a : Int) (x : List UInt8), x.length ≤ 200 → (lyE a).add (lyB x) = ⟨bytesB x, a, 0⟩ := fun a x hx => by
        simp only [Ly.add, lyE, lyB, List.nil_append, or0_r, or0_0]
        rw [if_neg (by omega)]
      have e : (lyE (cdE m.cd)).add (lyB (if cdE m.cd = 0 then encCd m.cd.d else [])) = lyC m.cd := e0 _ _ hll
      rw [e] at h4
      exact h4.drop2
    · refine ifB_bne (fun hne => wfail17_ok h2' fun w3 h3 => tupU rfl h3) fun he => ?_
      have he' : cdE m.cd = 0 := he
      rw [he'] at h2' ⊢
      rw [show lyE 0 = ly0 from rfl, Ly.add_0]
      exact h2'
  · refine ldAggB hA (by kernel_rfl) ?_
    refine wclient_ok (m := m) hA.swap hn hv.cons (by omega) fun w2 h2 => tupU rfl (hK w2 ?_)
    unfold lyRest
    rw [if_neg k1, if_neg k2, if_neg k3, if_neg k4]
    exact h2.drop2
theorem lyM_len {m : Ms} (hn : m.num) (hw : m.w ≤ 2 ^ 44) : (lyM m).o.length ≤ 6000 + m.w := by
  have hmw : m.w = 1000 + 20 * m.rf.wt + 2010 * m.fd.bl.length + 10 * m.mi.length + 2010 * m.bl.length + 30 * m.al.length := rfl
  have hl5 := ints_len hn.hd
  have h5 : m.hd.length = 5 := rfl
  simp only [lyM, Ly.add, lyO, List.length_append]
  unfold lyRest
  have hr : m.rf.wt = wsum (fun y : En17 => y.d.length + 1) m.rf.el + m.rf.snap.length := rfl
  have hel : m.rf.el.length ≤ wsum (fun y : En17 => y.d.length + 1) m.rf.el := wsum_len (fun x => by omega) _
  split
  · have h1 := ints_len (l := m.rf.ns) hn.rf.1
    have h2 : m.rf.ns.length = 7 := rfl
    have h3 := lyEs_take hn.rf.2 m.rf.el.length
    rw [List.take_length] at h3
    have h4 := uintB_len10 m.rf.el.length (by omega)
    have h6 := uintB_len10 m.rf.snap.length (by omega)
    have h7 := flagB_len m.rf.rej
    simp only [lyRf, Ly.add, lyO, lyN, lyB, bytesB, List.length_append]; omega
  split
  · have h1 := ints_len (l := m.fq.ns) hn.fq
    have h2 : m.fq.ns.length = 5 := rfl
    simp only [lyO]
    omega
  split
  · have h1 := ints_len (l := m.fd.ns) hn.fd.1
    have h2 : m.fd.ns.length = 8 := rfl
    have h3 := lyDs_len hn.fd.2 (by omega)
    have h7 := flagB_len m.fd.div
    simp only [lyFd, Ly.add, lyO, List.length_append]; omega
  split
  · have := lyC_len hn.cd
    omega
  · have h1 := ints_len (l := m.ns) hn.ns
    have h2 : m.ns.length = 9 := rfl
    have hlp := uintB_len10 m.pid.toNat (by have := hn.pid; omega)
    have hlf := flagB_len m.commit
    have hlm := uintB_len10 m.mi.length (by omega)
    have hlm2 := ints_len hn.mi
    have hld := lyD_len hn.bt
    have hlb := lyDs_len hn.bl (by omega)
    have hla := uintB_len10 m.al.length (by omega)
    have hlk := lyAs_take hn.al m.al.length
    rw [List.take_length] at hlk
    simp only [lyCl, Ly.add, lyO, lyN, lyMi, intsB, List.length_append]; omega
theorem mB_0 {m : Ms} (h : mE m ≠ 0) : mB m = [] := by unfold mB; rw [if_neg h]
theorem mB_1 {m : Ms} (h : mE m = 0) : mB m = (lyM m).o := by unfold mB; rw [if_pos h]
/-- a message is written -/
theorem wencode_ok (h : Sat W w l) (hn : m.num) (hv : MRd W l m) (hw : m.w ≤ 2 ^ 44)
    (hK : ∀ t w', Sat W w' (BsR t (mB m) :: l) → K (.tuple #[t.v, .int .i64 (mE m)]) w') : CallP P F_wire_Encode [.agg m.cells.toArray] w K := by
  apply c_wire_Encode
  unfold S_wire_Encode
  refine boxB h fun g w1 h1 => ?_
  have hA : Sat W w1 (Blk g m.cells T_api_Msg :: l) := h1
  have bad : (m.kind < 1 ∨ m.kind > 15) → ∀ w', Sat W w' (Blk g m.cells T_api_Msg :: l) → K (.tuple #[.slice none 0 0, .int .i64 1]) w' := fun hb w' h' => by
    have e1 : mE m = 1 := by unfold mE; rw [if_pos hb]
    have := hK ⟨none, 0, 0⟩ w' (by rw [mB_0 (by rw [e1]; decide)]; exact Sat.nilSlr h'.tail T_uint8 1)
    rwa [e1] at this
  refine ⟨fun _ w' => ¬ (m.kind < 1 ∨ m.kind > 15) ∧ Sat W w' (Blk g m.cells T_api_Msg :: l), ?_, ?_⟩
  · rintro _ w2 ⟨hk, h2⟩
    refine newWriter_ok h2 fun bw w3 h3 => tyI ?_
    refine boxB h3 fun b w4 h4 => ?_
    have h4' : Sat W w4 (WwR b bw ly0 :: Blk g m.cells T_api_Msg :: l) := sat_ww.2 h4
    refine ldB (h4'.up 1) (o := 0) (i := 0) (x := m.kind) ?_
    refine ldB (h4'.up 1) (o := 0) (i := 1) (x := m.frm) ?_
    refine ldB (h4'.up 1) (o := 0) (i := 2) (x := m.to) ?_
    refine ldB (h4'.up 1) (o := 0) (i := 3) (x := m.corr) ?_
    refine ldB (h4'.up 1) (o := 0) (i := 4) (x := m.er) ?_
    refine bsB h4' (cs := m.hd.map vI) (e := T_int) (fun w => by kernel_rfl) fun g2 w5 h5 => ?_
    refine wints17_ok (n := m.hd) (h5.up 1) (Rd.blk rfl) hn.hd (by have : m.hd.length = 5 := rfl; simp only [ly0, List.length_nil]; omega) fun w6 h6 => tupU rfl ?_
    have h6' : Sat W w6 (WwR b bw (lyO (m.hd.flatMap intB)) :: Blk g m.cells T_api_Msg :: l) := by
      have := h6.cut 1
      rwa [Ly.zero_add] at this
    refine ldAggB (h6'.up 1) (by kernel_rfl) ?_
    have hl5 := ints_len hn.hd
    have h5' : m.hd.length = 5 := rfl
    refine wrest_ok (m := m) h6' hn hv.cons (by simp only [lyO]; omega) fun w7 h7 => tupU rfl ?_
    have h7' : Sat W w7 (WwR b bw (lyM m) :: Blk g m.cells T_api_Msg :: l) := h7
    refine wwPtr h7' ?_
    have eE : mE m = or0 (lyM m).e (lyM m).l := by unfold mE; rw [if_neg hk]
    have h8 : Sat W w7 (WrR bw (lyM m).o (lyM m).l :: Blk b [.pointer (some ⟨bw, 0, none⟩), .int .i64 (lyM m).e] T_wire_writer :: Blk g m.cells T_api_Msg :: l) := (sat_ww.1 h7').swap
    have hlm : (lyM m).o.length ≤ 140737488355328 := by have := lyM_len hn hw; omega
    have fin : ∀ (s : Sl) (e : Int) w', (e ≠ 0 → e = (lyM m).l ∧ s = ⟨none, 0, 0⟩) → (e = 0 → (lyM m).l = 0) → Sat W w' (Blk b [.pointer (some ⟨bw, 0, none⟩), .int .i64 (lyM m).e] T_wire_writer :: l) → (e = 0 → Sat W w' (BsR s (lyM m).o :: Blk b [.pointer (some ⟨bw, 0, none⟩), .int .i64 (lyM m).e] T_wire_writer :: l)) →
        RunQ (.int .i64) P (Instr.loadAt T_api_Errno (.pointer (some ((⟨b, 0, none⟩ : Addr).add 1)))) w' fun (n30 : Int) =>
          ifB (n30 != 0)
           (RunQ (.int .i64) P (Instr.loadAt T_api_Errno (.pointer (some ((⟨b, 0, none⟩ : Addr).add 1)))) w'.drew fun (n31 : Int) =>
            K (.tuple #[(.slice none 0 0), (.int .i64 n31)]) w'.drew)
           (K (.tuple #[s.v, (.int .i64 e)]) w') := by
      intro s e w' c1 c2 c3 c4
      refine ldB c3 (i := 1) (x := (lyM m).e) ?_
      refine ifB_bne (fun hne => ?_) fun he => ?_
      · refine ldB c3.drew (i := 1) (x := (lyM m).e) ?_
        have e1 : mE m = (lyM m).e := by rw [eE, or0_l hne]
        have := hK ⟨none, 0, 0⟩ w'.drew (by rw [mB_0 (by rw [e1]; exact hne)]; exact Sat.nilSlr c3.drew.tail T_uint8 1)
        rwa [e1] at this
      · have e1 : mE m = (lyM m).l := by rw [eE]; have he' : (lyM m).e = 0 := he; rw [he', or0_0]
        by_cases h0 : e = 0
        · have e2 : mE m = 0 := e1.trans (c2 h0)
          have := hK s w' (by rw [mB_1 e2]; exact (c4 h0).drop2)
          rw [e2] at this
          rw [h0]; exact this
        · obtain ⟨d1, d2⟩ := c1 h0
          subst d2
          have := hK ⟨none, 0, 0⟩ w' (by rw [mB_0 (by rw [e1, ← d1]; exact h0)]; exact Sat.nilSlr c3.tail T_uint8 1)
          rw [e1, ← d1] at this
          exact this
    refine wOut_ok h8 hlm (fun hne w9 h9 => tup2 (s := ⟨none, 0, 0⟩) ?_) fun he s9 w9 h9 => tup2 ?_
    · exact fin ⟨none, 0, 0⟩ (lyM m).l w9 (fun _ => ⟨rfl, rfl⟩) id (h9.cut 0).drop2 (fun h0 => absurd h0 hne)
    · exact fin s9 0 w9 (fun h0 => absurd rfl h0) (fun _ => he) ((h9.cut 0).cut 0).drop2 fun _ => ((h9.cut 1).cut 2)
  · refine ldB hA (o := 0) (i := 0) (x := m.kind) ?_
    refine ifB_dec (fun hb => bad (.inl hb) _ hA) fun hb1 => ?_
    refine ldB hA (o := 0) (i := 0) (x := m.kind) ?_
    exact ifB_dec (fun hb => bad (.inr hb) _ hA) fun hb2 => ⟨by omega, hA⟩
end
end Go.Proofs.Ytokogdigfohbeaa
