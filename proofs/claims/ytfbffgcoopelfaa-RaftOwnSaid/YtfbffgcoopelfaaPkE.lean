/- The engine, part 5: control and functions. -/
import Derived.Test.YtfbffgcoopelfaaPkD
namespace Go.Pk
open Go

def mods : Code → List Nat
  | .region _ ops _ => dsts ops.toList
  | .seq a b => mods a ++ mods b
  | .cond _ a b => mods a ++ mods b
  | .block _ c => mods c
  | .loop c => mods c
  | .scope c => mods c
  | _ => []
/-- the number of the first region -/
def key : Code → Nat
  | .region id _ _ => id
  | .seq a b => match key a with
    | 1000000 => key b
    | k => k
  | .cond _ a b => match key a with
    | 1000000 => key b
    | k => k
  | .block _ c => key c
  | .loop c => key c
  | .scope c => key c
  | _ => 1000000
def orNil {α : Type} : Option (List α) → List α | some l => l | none => []

def LoopP {T : Type} (t0 : Option T) (w : World) (body : (Option T → World → Prop) → T → World → Prop) : Prop :=
  ∃ (I : T → World → Prop) (μ : T → World → Nat), (match t0 with | some t => I t w | none => False) ∧
    ∀ t w, I t w → body (fun t' w' => match t' with | some t' => I t' w' ∧ μ t' w' < μ t w | none => False) t w
def JoinP {T : Type} (first : (Option T → World → Prop) → Prop) (rest : T → World → Prop) : Prop :=
  ∃ J : T → World → Prop, (∀ t w, J t w → rest t w) ∧ first fun t w => match t with | some t => J t w | none => False

def den (P : Program) (Px : Option PX) (n : Nat) (an : Ann) : Code → (Env → World → Prop) → (Nat → Env → World → Prop) → (Env → World → Prop) → Env → World → Prop
  | .skip, N, _, _, e, w => N e w
  | .label _, N, _, _, e, w => N e w
  | .region id ops draw, N, _, _, e, w => match draw with
    | false => denOps P Px n ops.toList ops.toList e w N
    | true => bif noSel ops.toList && P.follows .mixedOrders then
        bif textOrder P ops.toList ops.toList.length 0 (Array.replicate ops.toList.length false) then denOps P Px n ops.toList ops.toList e w.drew N
        else ∃ S : World → Prop, S w.drew ∧ denH P Px n ops.toList (memb id an.noh) S ops.toList.length (Array.replicate ops.toList.length false) e w.drew N
      else False
  | .seq a b, N, X, R, e, w => match assoc an.joins (key b) with
    | none => den P Px n an a (fun e w => den P Px n an b N X R e w) X R e w
    | some js => JoinP (T := Tup (js.map (·.2))) (fun J => den P Px n an a (fun e' w' => J (e'.getT js) w') X R e w) fun t w => den P Px n an b N X R (Env.putT js t (e.forget (mods a))) w
  | .cond c a b, N, X, R, e, w => match c with
    | .tmp d => match e.get d with
      | some (.bool t) => ifB t (den P Px n an a N X R ((d, .bool true) :: e) w) (den P Px n an b N X R ((d, .bool false) :: e) w)
      | _ => False
    | .const (.bool t) => ifB t (den P Px n an a N X R e w) (den P Px n an b N X R e w)
    | _ => False
  | .block id c, N, X, R, e, w => den P Px n an c N (fun j e w => bif Nat.beq j id then N e w else X j e w) R e w
  | .loop c, _, X, R, e, w => LoopP (T := Tup ((orNil (assoc an.loops (key c))).map (·.2))) (e.getT (orNil (assoc an.loops (key c)))) w
      fun next t w => den P Px n an c (fun e' w' => next (e'.getT (orNil (assoc an.loops (key c)))) w') X R (Env.putT (orNil (assoc an.loops (key c))) t (e.forget (mods c))) w
  | .exit id, _, X, _, e, w => X id e w
  | .ret, _, _, R, e, w => R e w
  | _, _, _, _, _, _ => False

def lift (Px : Option PX) (n : Nat) (M : List Nat) (a0 : Act) (N : Env → World → Prop) (X : Nat → Env → World → Prop) (R : Env → World → Prop) : Exit → Act → World → Prop
  | .normal, a, w => Keep M a0 a ∧ ∃ e, e.Of n a ∧ N e w
  | .exit j, a, w => Keep M a0 a ∧ ∃ e, e.Of n a ∧ X j e w
  | .ret, a, w => Keep M a0 a ∧ ∃ e, e.Of n a ∧ R e w
  | .panic c, a, w => Keep M a0 a ∧ a.tmps.size = n ∧ a.defers = [] ∧ px Px c w
  | _, _, _ => False

/-- the rule of loops by a number that falls -/
theorem wp_loop_rel {P : Program} {c : Code} {Q : Exit → Act → World → Prop} {a : Act} {w : World} (J : Nat → Act → World → Prop) (m : Nat) (h₀ : J m a w)
    (round : ∀ m a w, J m a w → c.wp P (Exit.then (fun a' w' => ∃ m', m' < m ∧ J m' a' w') Q) a w) : (Code.loop c).wp P Q a w := by
  intro b k cs
  have key : ∀ n a w, J n a w →
      ∃ e a' w', Q e a' w' ∧ Arrives P (lone (b.at a (.code c :: .inLoop c :: k)) cs w) b k cs e a' w' := by
    intro n
    induction n using Nat.strongRecOn with
    | _ n ih =>
      intro a w hI
      obtain ⟨e, a₁, w₁, hq, harr⟩ := round n a w hI b (.inLoop c :: k) cs
      cases e with
      | normal =>
        obtain ⟨m', hlt, hI₁⟩ := hq
        obtain ⟨e₂, a₂, w₂, hq₂, harr₂⟩ := ih m' hlt a₁ w₁ hI₁
        exact ⟨e₂, a₂, w₂, hq₂, .of_steps (Steps.trans harr (.one step_inLoop)) harr₂⟩
      | exit id => exact ⟨_, a₁, w₁, hq, .pass (x := .inLoop c) rfl (fun _ _ => .inl (by simp)) harr⟩
      | goto l => exact ⟨_, a₁, w₁, hq, .pass (x := .inLoop c) rfl (fun _ _ => .inl (by simp)) harr⟩
      | ret => exact ⟨_, a₁, w₁, hq, .pass (x := .inLoop c) rfl (fun _ _ => .inl (by simp)) harr⟩
      | panic ch => exact ⟨_, a₁, w₁, hq, .pass (x := .inLoop c) rfl (fun _ _ => .inl (by simp)) harr⟩
      | outgrown => exact ⟨_, a₁, w₁, hq, .pass (x := .inLoop c) rfl (fun _ _ => .inl (by simp)) harr⟩
  obtain ⟨e, a', w', hq, harr⟩ := key m a w h₀
  exact ⟨e, a', w', hq, .of_steps (.one step_loop) harr⟩

theorem Env.Of.putT {n : Nat} {e1 : Env} {a : Act} (h1 : e1.Of n a) {e : Env} (h : e.Of n a) : (ks : List (Nat × Kd)) → (t : Tup (ks.map (·.2))) → e1.getT ks = some t → (Env.putT ks t e).Of n a
  | [], _, _ => h
  | p :: ks, t, hg => by
    simp only [Env.getT] at hg
    split at hg
    · rename_i u hu
      split at hg
      · rename_i x hx
        split at hg
        · rename_i t' ht'
          simp only [Option.some.injEq] at hg
          subst hg
          have ih := Env.Of.putT h1 h ks t' ht'
          refine ⟨h.size, h.defers, fun i v hv => ?_⟩
          simp only [Env.putT, Env.get_cons] at hv
          by_cases hi : p.1 = i
          · subst hi
            simp only [if_true, Option.some.injEq] at hv
            rw [← hv, ← Kd.get_v hx]
            exact h1.vals _ _ hu
          · simp only [if_neg hi] at hv
            exact ih.vals i v hv
        · cases hg
      · cases hg
    · cases hg
theorem Env.Of.forget {n : Nat} {e : Env} {a a' : Act} {M : List Nat} (h : e.Of n a) (hk : Keep M a a') (hs : a'.tmps.size = n) (hd : a'.defers = []) : (e.forget M).Of n a' := by
  refine ⟨hs, hd, fun i v hv => ?_⟩
  rw [Env.get_forget] at hv
  split at hv
  · cases hv
  · rename_i hi
    rw [hk i hi]
    exact h.vals i v hv

theorem lift_mono {Px : Option PX} {n : Nat} {M M' : List Nat} {a0 a1 : Act} {N N' : Env → World → Prop} {X X' : Nat → Env → World → Prop} {R R' : Env → World → Prop}
    (hk : ∀ a, Keep M a0 a → Keep M' a1 a) (hN : ∀ e w, N e w → N' e w) (hX : ∀ j e w, X j e w → X' j e w) (hR : ∀ e w, R e w → R' e w) :
    ∀ x a w, lift Px n M a0 N X R x a w → lift Px n M' a1 N' X' R' x a w := by
  intro x a w h
  cases x <;> simp only [lift] at h ⊢
  · exact ⟨hk _ h.1, h.2.imp fun e h => ⟨h.1, hN _ _ h.2⟩⟩
  · exact ⟨hk _ h.1, h.2.imp fun e h => ⟨h.1, hX _ _ _ h.2⟩⟩
  · exact ⟨hk _ h.1, h.2.imp fun e h => ⟨h.1, hR _ _ h.2⟩⟩
  · exact ⟨hk _ h.1, h.2⟩
theorem lift_unput {Px : Option PX} {n : Nat} {M : List Nat} {a0 : Act} {N : Env → World → Prop} {X : Nat → Env → World → Prop} {R : Env → World → Prop} :
    ∀ c a w d v, (∀ i, d = some i → i ∈ M) → lift Px n M a0 N X R (.panic c) (a.put d v) w → lift Px n M a0 N X R (.panic c) a w := by
  intro c a w d v hd h
  obtain ⟨h1, h2, h3, h4⟩ := h
  refine ⟨fun i hi => ?_, ?_, ?_, h4⟩
  · rw [← h1 i hi]
    cases d with
    | none => rfl
    | some d =>
      have hne : d ≠ i := fun he => hi (he ▸ hd d rfl)
      simp [Act.put, Array.getElem?_setIfInBounds_ne hne]
  · cases d <;> simpa [Act.put] using h2
  · cases d <;> simpa [Act.put] using h3

theorem den_sound {P : Program} {Px : Option PX} {n : Nat} {an : Ann} (c : Code) :
    ∀ (N : Env → World → Prop) (X : Nat → Env → World → Prop) (R : Env → World → Prop) (e : Env) (a : Act) (w : World), e.Of n a → den P Px n an c N X R e w → c.wp P (lift Px n (mods c) a N X R) a w := by
  induction c with
  | skip => intro N X R e a w hof h; exact wp_skip ⟨Keep.refl _ _, e, hof, h⟩
  | label l => intro N X R e a w hof h; exact wp_label ⟨Keep.refl _ _, e, hof, h⟩
  | exit id => intro N X R e a w hof h; exact wp_exit ⟨Keep.refl _ _, e, hof, h⟩
  | ret => intro N X R e a w hof h; exact wp_ret ⟨Keep.refl _ _, e, hof, h⟩
  | goto l => intro N X R e a w hof h; exact h.elim
  | refuse s => intro N X R e a w hof h; exact h.elim
  | scope b ih => intro N X R e a w hof h; exact h.elim
  | rangeFunc f ps x y ih1 ih2 => intro N X R e a w hof h; exact h.elim
  | region id ops draw =>
    intro N X R e a w hof h
    obtain ⟨ops⟩ := ops
    have hQ : ∀ (e : Env) (a' : Act) (w : World), e.Of n a' → Keep (dsts ops) a a' → N e w → lift Px n (dsts ops) a N X R .normal a' w := fun e a' w h1 h2 h3 => ⟨h2, e, h1, h3⟩
    have hX : ∀ c (a' : Act) (w : World), a'.tmps.size = n → a'.defers = [] → Keep (dsts ops) a a' → px Px c w → lift Px n (dsts ops) a N X R (.panic c) a' w := fun c a' w h1 h2 h3 h4 => ⟨h3, h1, h2, h4⟩
    cases draw with
    | false =>
      simp only [den] at h
      exact wp_region_lit (denOps_sound (M := dsts ops) (a0 := a) hQ hX ops e a w (fun o ho i hi => mem_dsts ho i hi) hof (Keep.refl _ _) h)
    | true =>
      simp only [den] at h
      cases hc : (noSel ops && P.follows .mixedOrders) <;> simp only [hc, cond_true, cond_false] at h
      simp only [Bool.and_eq_true] at hc
      cases ht : textOrder P ops ops.length 0 (Array.replicate ops.length false) <;> simp only [ht, cond_true, cond_false] at h
      · obtain ⟨S, hS, h⟩ := h
        exact wp_region_held (S := S) hc.2 (denH_sound (M := dsts ops) (a0 := a) hc.1 (fun o ho i hi => mem_dsts ho i hi) lift_unput hQ hX _ _ e a _ hof (Keep.refl _ _) hS h)
      · exact wp_region_held (S := (· = w.drew)) hc.2
          (textOrder_sound (M := dsts ops) (a0 := a) hc.1 (fun o ho i hi => mem_dsts ho i hi) lift_unput hQ _ 0 _ e a ht (by simp) hof (Keep.refl _ _) h)
  | seq x y ihx ihy =>
    intro N X R e a w hof h
    simp only [den] at h
    refine wp_seq ?_
    have fin : ∀ (e' : Env) (a' : Act) (w' : World), e'.Of n a' → Keep (mods x) a a' → den P Px n an y N X R e' w' → y.wp P (lift Px n (mods x ++ mods y) a N X R) a' w' := fun e' a' w' h1 h2 h3 =>
      wp_mono (ihy N X R e' a' w' h1 h3) (lift_mono (fun a'' hk => (h2.mono fun i hi => List.mem_append_left _ hi).trans (hk.mono fun i hi => List.mem_append_right _ hi)) (fun _ _ h => h) (fun _ _ _ h => h) (fun _ _ h => h))
    split at h
    · refine wp_mono (ihx _ X R e a w hof h) fun q a' w' hq => ?_
      cases q with
      | normal => obtain ⟨hk, e', hof', hd⟩ := hq; exact fin e' a' w' hof' hk hd
      | exit j => exact ⟨hq.1.mono fun i hi => List.mem_append_left _ hi, hq.2⟩
      | ret => exact ⟨hq.1.mono fun i hi => List.mem_append_left _ hi, hq.2⟩
      | panic c => exact ⟨hq.1.mono fun i hi => List.mem_append_left _ hi, hq.2⟩
      | _ => exact hq.elim
    · rename_i js _
      obtain ⟨J, hJ, h⟩ := h
      refine wp_mono (ihx _ X R e a w hof h) fun q a' w' hq => ?_
      cases q with
      | normal =>
        obtain ⟨hk, e', hof', hd⟩ := hq
        dsimp only at hd
        split at hd
        · rename_i t ht
          exact fin _ a' w' (hof'.putT (hof.forget hk hof'.size hof'.defers) js t ht) hk (hJ t w' hd)
        · exact hd.elim
      | exit j => exact ⟨hq.1.mono fun i hi => List.mem_append_left _ hi, hq.2⟩
      | ret => exact ⟨hq.1.mono fun i hi => List.mem_append_left _ hi, hq.2⟩
      | panic c => exact ⟨hq.1.mono fun i hi => List.mem_append_left _ hi, hq.2⟩
      | _ => exact hq.elim
  | cond c x y ihx ihy =>
    intro N X R e a w hof h
    simp only [den] at h
    have fin : ∀ (t : Bool) (e1 e2 : Env), a.eval c = .bool t → (t = true → e1.Of n a) → (t = false → e2.Of n a) → ifB t (den P Px n an x N X R e1 w) (den P Px n an y N X R e2 w) → (Code.cond c x y).wp P (lift Px n (mods x ++ mods y) a N X R) a w := by
      intro t e1 e2 hc h1 h2 h
      cases t with
      | true => exact wp_cond_true hc (wp_mono (ihx N X R e1 a w (h1 rfl) h) (lift_mono (fun a'' hk => hk.mono fun i hi => List.mem_append_left _ hi) (fun _ _ h => h) (fun _ _ _ h => h) (fun _ _ h => h)))
      | false => exact wp_cond_false hc (wp_mono (ihy N X R e2 a w (h2 rfl) h) (lift_mono (fun a'' hk => hk.mono fun i hi => List.mem_append_right _ hi) (fun _ _ h => h) (fun _ _ _ h => h) (fun _ _ h => h)))
    split at h
    · rename_i d
      split at h
      · rename_i t ht
        exact fin t _ _ (hof.ev (x := .tmp d) ht) (fun he => hof.cons_eq ht (by rw [he])) (fun he => hof.cons_eq ht (by rw [he])) h
      · exact h.elim
    · exact fin _ _ _ rfl (fun _ => hof) (fun _ => hof) h
    · exact h.elim
  | block id c ih =>
    intro N X R e a w hof h
    refine wp_block (wp_mono (ih _ _ R e a w hof h) fun q a' w' hq => ?_)
    cases q with
    | normal => exact hq
    | exit j =>
      obtain ⟨hk, e', hof', hd⟩ := hq
      simp only [Exit.inBlock]
      by_cases hj : j = id
      · rw [if_pos hj]
        rw [beq_eq, hj] at hd
        simp only [decide_true, cond_true] at hd
        exact ⟨hk, e', hof', hd⟩
      · rw [if_neg hj]
        rw [beq_eq] at hd
        simp only [hj, decide_false, cond_false] at hd
        exact ⟨hk, e', hof', hd⟩
    | ret => exact hq
    | panic c => exact hq
    | _ => exact hq.elim
  | loop c ih =>
    intro N X R e a w hof h
    simp only [den] at h
    generalize orNil (assoc an.loops (key c)) = ks at h
    obtain ⟨I, μ, h0, hround⟩ := h
    split at h0
    case h_2 => exact h0.elim
    rename_i t0 ht0
    refine wp_loop_rel (fun m a' w' => ∃ t, μ t w' = m ∧ I t w' ∧ Keep (mods c) a a' ∧ ∃ e1 : Env, e1.Of n a' ∧ e1.getT ks = some t) (μ t0 w) ⟨t0, rfl, h0, Keep.refl _ _, e, hof, ht0⟩ ?_
    rintro m a' w' ⟨t, rfl, hI, hk, e1, hof1, hg1⟩
    refine wp_mono (ih _ X R _ a' w' (hof1.putT (hof.forget hk hof1.size hof1.defers) ks t hg1) (hround t w' hI)) fun q a2 w2 hq => ?_
    cases q with
    | normal =>
      obtain ⟨hk2, e2, hof2, hd⟩ := hq
      dsimp only at hd
      split at hd
      · rename_i t2 ht2
        exact ⟨_, hd.2, t2, rfl, hd.1, hk.trans hk2, e2, hof2, ht2⟩
      · exact hd.elim
    | exit j => exact ⟨hk.trans hq.1, hq.2⟩
    | ret => exact ⟨hk.trans hq.1, hq.2⟩
    | panic c => exact ⟨hk.trans hq.1, hq.2⟩
    | _ => exact hq.elim

/-! ### functions -/
def resD (P : Program) : List ResultVar → Env → World → (List Value → Prop) → Prop
  | [], _, _, K => K []
  | .tmp t :: rs, e, w, K => match e.get t with
    | some v => resD P rs e w fun vs => K (v :: vs)
    | none => False
  | .cell a t :: rs, e, w, K => match e.get a with
    | some (.pointer (some p)) => LoadK (kdOf P t) P t (.pointer (some p)) w fun x => resD P rs e w fun vs => K ((kdOf P t).v x :: vs)
    | _ => False
def finV : List Value → Value
  | [v] => v
  | vs => .tuple vs.toArray
def env0 : Nat → List Value → Env
  | _, [] => []
  | i, v :: l => (i, v) :: env0 (i + 1) l
def denFX (P : Program) (Px : Option PX) (an : Ann) (fn : Func) (args : List Value) (w : World) (R : Value → World → Prop) : Prop :=
  match fn.body with
  | some c => bif Nat.ble args.length fn.ntmps then
      den P Px fn.ntmps an c (fun e w => resD P fn.results.toList e w fun vs => R (finV vs) w) (fun _ _ _ => False) (fun e w => resD P fn.results.toList e w fun vs => R (finV vs) w) (env0 0 args) w
    else False
  | none => False
def denF (P : Program) (an : Ann) (fn : Func) (args : List Value) (w : World) (R : Value → World → Prop) : Prop := denFX P none an fn args w R

theorem env0_get (l : List Value) : ∀ k i v, Env.get (env0 k l) i = some v → k ≤ i ∧ l[i - k]? = some v := by
  induction l with
  | nil => intro k i v h; cases h
  | cons u l ih =>
    intro k i v h
    simp only [env0, Env.get_cons] at h
    by_cases hi : k = i
    · subst hi; simp only [if_true] at h; exact ⟨Nat.le_refl _, by simpa using h⟩
    · rw [if_neg hi] at h
      obtain ⟨h1, h2⟩ := ih _ _ _ h
      refine ⟨by omega, ?_⟩
      have : i - k = (i - (k + 1)) + 1 := by omega
      rw [this]; simpa using h2

def resF (tmps : Array Value) : ResultVar → Sem Value
  | .tmp t => pure (tmps.getD t undef)
  | .cell b t => do loadVar t (← asAddr (tmps.getD b undef))
theorem results_eq (fn : Func) (tmps : Array Value) : results fn tmps = (do
    let vs ← fn.results.mapM (resF tmps)
    pure (if h : vs.size = 1 then vs[0] else .tuple vs)) := by
  unfold results resF; rfl
theorem resD_run {P : Program} {w : World} {e : Env} {n : Nat} {a : Act} (hof : e.Of n a) (rs : List ResultVar) : ∀ (K : List Value → Prop), resD P rs e w K →
    ∃ vs, K vs ∧ (rs.mapM (resF a.tmps)).run P w = .ok vs w := by
  induction rs with
  | nil => intro K h; exact ⟨[], h, rfl⟩
  | cons r rs ih =>
    intro K h
    cases r with
    | tmp t =>
      simp only [resD] at h
      split at h
      · rename_i v hv
        obtain ⟨vs, hk, hr⟩ := ih _ h
        refine ⟨v :: vs, hk, ?_⟩
        have : resF a.tmps (.tmp t) = pure v := by simp [resF, hof.vals t v hv]
        rw [List.mapM_cons, this]
        simp only [pure_bind, Sem.run_bind, hr, Result.andThen_ok]; rfl
      · exact h.elim
    | cell b t =>
      simp only [resD] at h
      split at h
      · rename_i p hp
        obtain ⟨x, hl, h⟩ := h
        obtain ⟨vs, hk, hr⟩ := ih _ h
        refine ⟨(kdOf P t).v x :: vs, hk, ?_⟩
        have : resF a.tmps (.cell b t) = loadVar t p := by simp [resF, hof.vals b _ hp, asAddr]
        have hl' : (loadVar t p).run P w = .ok ((kdOf P t).v x) w := hl
        rw [List.mapM_cons, this]
        simp only [Sem.run_bind, hl', Result.andThen_ok, hr]; rfl
      · exact h.elim

theorem calls_of_denFX {P : Program} {Px : Option PX} {an : Ann} {f : FuncId} {fn : Func} {args : List Value} {w : World} {R : Value → World → Prop}
    (hf : P.funcs[f]? = some fn) (h : denFX P Px an fn args w R) : CallX P f args w R (px Px) := by
  unfold denFX at h
  split at h
  case h_2 => exact h.elim
  rename_i c hb
  cases hl : Nat.ble args.length fn.ntmps <;> simp only [hl, cond_true, cond_false] at h
  have hl' : args.length ≤ fn.ntmps := Nat.le_of_ble_eq_true hl
  unfold CallX
  refine calls_of_wp hf hb ?_
  have hof : (env0 0 args).Of fn.ntmps { tmps := args.toArray ++ Array.replicate (fn.ntmps - args.toArray.size) undef, defers := [] } := by
    refine ⟨by simp; omega, rfl, fun i v hv => ?_⟩
    obtain ⟨_, h2⟩ := env0_get _ _ _ _ hv
    have hlt : i < args.length := by
      have := (List.getElem?_eq_some_iff.1 h2).1
      simpa using this
    simp only [Nat.sub_zero] at h2
    rw [Array.getElem?_append_left (by simpa using hlt)]
    simpa using h2
  have fin : ∀ (e : Env) (a : Act) (w : World), e.Of fn.ntmps a → (resD P fn.results.toList e w fun vs => R (finV vs) w) →
      a.defers = [] ∧ ∃ v, (results fn a.tmps).run P w = .ok v w ∧ ((∃ u, Ending.returned v = Ending.returned u ∧ R u w) ∨ ∃ c, Ending.returned v = Ending.panicked c ∧ px Px c w) := by
    intro e a w hof h
    obtain ⟨vs, hk, hr⟩ := resD_run hof _ _ h
    refine ⟨hof.defers, finV vs, ?_, .inl ⟨finV vs, rfl, hk⟩⟩
    rw [results_eq, Array.mapM_eq_mapM_toList]
    simp only [Sem.run_bind, Sem.run_map, bind_map_left] at hr ⊢
    rw [hr]
    simp only [Result.andThen_ok, Sem.run_pure, Result.ok.injEq, and_true]
    match vs with
    | [] => rfl
    | [v] => rfl
    | u :: v :: l => simp [finV]
  refine wp_mono (den_sound c _ _ _ _ _ w hof h) fun q a' w' hq => ?_
  cases q with
  | normal => obtain ⟨_, e, hof', h⟩ := hq; exact fin e a' w' hof' h
  | ret => obtain ⟨_, e, hof', h⟩ := hq; exact fin e a' w' hof' h
  | exit j => exact hq.2.elim fun _ h => h.2.elim
  | panic c => exact ⟨hq.2.2.1, .inr ⟨c, rfl, hq.2.2.2⟩⟩
  | _ => exact hq.elim
theorem calls_of_denF {P : Program} {an : Ann} {f : FuncId} {fn : Func} {args : List Value} {w : World} {R : Value → World → Prop}
    (hf : P.funcs[f]? = some fn) (h : denF P an fn args w R) : CallP P f args w R :=
  Calls.mono (calls_of_denFX (Px := none) hf h) fun _ _ he => he.elim id fun ⟨_, _, hc⟩ => hc.elim
end Go.Pk
