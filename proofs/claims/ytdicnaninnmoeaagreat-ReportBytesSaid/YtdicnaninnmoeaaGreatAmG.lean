/- Part of the proof: an abstract machine of our own over the model; no condition. -/
import Derived.Test.YtdicnaninnmoeaaGreatAmF2
set_option linter.unusedSectionVars false
set_option linter.unusedSimpArgs false
set_option linter.unusedVariables false
set_option linter.unnecessarySimpa false
/- The abstract machine, part G: code. -/
namespace Go.Am
open Go
variable [F : Fr]

inductive TR (σ : Sig) : Target → Target → Prop
  | fn (fn : Fn) (c c' : Array Value) (h : VRs σ c.toList c'.toList) : TR σ (.fn fn c) (.fn fn c')

structure DR (σ : Sig) (d d' : Deferred) : Prop where
  t : TR σ d.target d'.target
  a : VRs σ d.args.toList d'.args.toList

inductive DRs (σ : Sig) : List Deferred → List Deferred → Prop
  | nil : DRs σ [] []
  | cons {d d' l l'} (h : DR σ d d') (hs : DRs σ l l') : DRs σ (d :: l) (d' :: l')

theorem TR.mono {σ σ' : Sig} (hle : Le σ σ') {t t' : Target} : TR σ t t' → TR σ' t t'
  | .fn f c c' h => .fn f c c' (h.mono hle)

theorem DRs.mono {σ σ' : Sig} (hle : Le σ σ') : ∀ {l l'}, DRs σ l l' → DRs σ' l l'
  | _, _, .nil => .nil
  | _, _, .cons h hs => .cons ⟨h.t.mono hle, h.a.mono hle⟩ (hs.mono hle)

/-- A frame: how many slots, what is known of them, and the deferred calls. -/
structure AAct where
  n : Nat
  tmps : Nat → Option Value
  defers : List Deferred

def AAct.put (a : AAct) (d : Option Tmp) (v : Value) : AAct :=
  match d with
  | some d => { a with tmps := fun k => if k = d then some v else a.tmps k }
  | none => a

structure AR (σ : Sig) (a : AAct) (a' : Act) : Prop where
  n : a'.tmps.size = a.n
  tmps : ∀ t v, a.tmps t = some v → ∃ v', a'.tmps[t]? = some v' ∧ VR σ v v'
  defers : DRs σ a.defers a'.defers

theorem AR.mono {σ σ' : Sig} (hle : Le σ σ') {a : AAct} {a' : Act} (h : AR σ a a') : AR σ' a a' :=
  ⟨h.n, fun t v e => let ⟨v', e', hv⟩ := h.tmps t v e; ⟨v', e', hv.mono hle⟩, h.defers.mono hle⟩

theorem VR.undef {σ : Sig} : VR σ undef undef := .tuple _ _ .nil

def dstOk (a : AAct) : Option Tmp → Bool
  | some d => decide (d < a.n)
  | none => true

theorem AR.put {σ : Sig} {a : AAct} {a' : Act} (h : AR σ a a') {d : Option Tmp} (hd : dstOk a d = true) {v v' : Value} (hv : VR σ v v') :
    AR σ (a.put d v) (a'.put d v') := by
  cases d with
  | none => exact h
  | some d =>
    simp [dstOk] at hd
    refine ⟨by simp [Act.put, AAct.put, h.n], fun t u e => ?_, h.defers⟩
    simp only [AAct.put] at e
    simp only [Act.put, Array.getElem?_setIfInBounds]
    split at e
    · rename_i ht
      subst ht
      cases e
      exact ⟨v', by simp [h.n, hd], hv⟩
    · rename_i ht
      rw [if_neg (fun e => ht e.symm)]
      exact h.tmps t u e

/-- An operand's value; none: it may not be. -/
def ev (a : AAct) : Operand → Option Value
  | .tmp t => a.tmps t
  | .const v => if selfRel 3 v then some v else none
  | .func f => some (.func (.func f) #[] #[])
  | .global _ => none

theorem ev_VR {σ : Sig} {a : AAct} {a' : Act} (h : AR σ a a') {x : Operand} {v : Value} (e : ev a x = some v) : VR σ v (a'.eval x) := by
  cases x with
  | tmp t =>
    simp only [ev] at e
    obtain ⟨v', this, hv⟩ := h.tmps t v e
    simpa [Act.eval, Array.getD_eq_getD_getElem?, this] using hv
  | const c =>
    simp only [ev] at e
    split at e <;> try (cases e; done)
    rename_i hs
    cases e
    exact selfRel_VR 3 _ hs
  | func f => simp only [ev] at e; cases e; exact .func _ _ _ _ _ .nil .nil
  | global g => cases e

structure PE (σ : Sig) (p p' : PanicEntry) : Prop where
  v : VR σ p.v p'.v
  r : p.recovered = p'.recovered
  g : p.goexit = p'.goexit

inductive PEs (σ : Sig) : List PanicEntry → List PanicEntry → Prop
  | nil : PEs σ [] []
  | cons {p p' l l'} (h : PE σ p p') (hs : PEs σ l l') : PEs σ (p :: l) (p' :: l')

theorem PEs.mono {σ σ' : Sig} (hle : Le σ σ') : ∀ {l l'}, PEs σ l l' → PEs σ' l l'
  | _, _, .nil => .nil
  | _, _, .cons h hs => .cons ⟨h.v.mono hle, h.r, h.g⟩ (hs.mono hle)

inductive ExR (σ : Sig) : Exit → Exit → Prop
  | normal : ExR σ .normal .normal
  | exit (id : Nat) : ExR σ (.exit id) (.exit id)
  | goto (l : Nat) : ExR σ (.goto l) (.goto l)
  | ret : ExR σ .ret .ret
  | panic (c c' : List PanicEntry) (h : PEs σ c c') : ExR σ (.panic c) (.panic c')

inductive EnR (σ : Sig) : Ending → Ending → Prop
  | returned (v v' : Value) (h : VR σ v v') : EnR σ (.returned v) (.returned v')
  | panicked (c c' : List PanicEntry) (h : PEs σ c c') : EnR σ (.panicked c) (.panicked c')

def Lift (P : Program) (σ : Sig) (Q : Exit → AAct → AH → Prop) : Exit → Act → World → Prop :=
  fun e' a' w' => ∃ σ' e a H, Le σ σ' ∧ HR P σ' H w' ∧ AR σ' a a' ∧ ExR σ' e e' ∧ Q e a H

def LiftE (P : Program) (σ : Sig) (R : Ending → AH → Prop) : Ending → World → Prop :=
  fun e' w' => ∃ σ' e H, Le σ σ' ∧ HR P σ' H w' ∧ EnR σ' e e' ∧ R e H

theorem Lift.le {P : Program} {σ σ' : Sig} (hle : Le σ σ') {Q : Exit → AAct → AH → Prop} {e a w} (h : Lift P σ' Q e a w) : Lift P σ Q e a w := by
  obtain ⟨σ'', e, a, H, h1, h2⟩ := h
  exact ⟨σ'', e, a, H, hle.trans h1, h2⟩

theorem Lift.mono {P : Program} {σ : Sig} {Q Q' : Exit → AAct → AH → Prop} (hq : ∀ e a H, Q e a H → Q' e a H) {e a w} (h : Lift P σ Q e a w) : Lift P σ Q' e a w := by
  obtain ⟨σ'', e, a, H, h1, h2, h3, h4, h5⟩ := h
  exact ⟨σ'', e, a, H, h1, h2, h3, h4, hq _ _ _ h5⟩

def AWP (P : Program) (c : Code) (Q : Exit → AAct → AH → Prop) (a : AAct) (H : AH) : Prop :=
  ∀ σ w a', HR P σ H w → AR σ a a' → c.wp P (Lift P σ Q) a' w

def ACalls (P : Program) (f : FuncId) (args : List Value) (H : AH) (R : Ending → AH → Prop) : Prop :=
  ∀ σ w (args' : Array Value), HR P σ H w → VRs σ args args'.toList → Calls P f args' w (LiftE P σ R)

section rules
variable {P : Program} {Q : Exit → AAct → AH → Prop} {a : AAct} {H : AH}

theorem AWP.mono {c : Code} {Q' : Exit → AAct → AH → Prop} (h : AWP P c Q a H) (hq : ∀ e a H, Q e a H → Q' e a H) : AWP P c Q' a H :=
  fun σ w a' hr ha => wp_mono (h σ w a' hr ha) fun _ _ _ hl => hl.mono hq

theorem ACalls.mono {f : FuncId} {args : List Value} {R R' : Ending → AH → Prop} (h : ACalls P f args H R) (hq : ∀ e H, R e H → R' e H) : ACalls P f args H R' :=
  fun σ w a' hr ha => (h σ w a' hr ha).mono fun _ _ ⟨σ', e, H, h1, h2, h3, h4⟩ => ⟨σ', e, H, h1, h2, h3, hq _ _ h4⟩

theorem AWP_skip (h : Q .normal a H) : AWP P .skip Q a H := fun σ _ _ hr ha => wp_skip ⟨σ, .normal, a, H, Le.refl _, hr, ha, .normal, h⟩
theorem AWP_exit {id : Nat} (h : Q (.exit id) a H) : AWP P (.exit id) Q a H := fun σ _ _ hr ha => wp_exit ⟨σ, .exit id, a, H, Le.refl _, hr, ha, .exit id, h⟩
theorem AWP_ret (h : Q .ret a H) : AWP P .ret Q a H := fun σ _ _ hr ha => wp_ret ⟨σ, .ret, a, H, Le.refl _, hr, ha, .ret, h⟩

def AThen (next : AAct → AH → Prop) (Q : Exit → AAct → AH → Prop) : Exit → AAct → AH → Prop
  | .normal, a, H => next a H
  | e, a, H => Q e a H

theorem AWP_seq {x y : Code} (h : AWP P x (AThen (AWP P y Q) Q) a H) : AWP P (.seq x y) Q a H := by
  intro σ w a' hr ha
  refine wp_seq (wp_mono (h σ w a' hr ha) ?_)
  rintro e a1 w1 ⟨σ', e0, a0, H0, hle, hr', ha', he, hq⟩
  cases he with
  | normal => exact wp_mono (hq σ' w1 a1 hr' ha') fun _ _ _ hl => hl.le hle
  | exit id => exact ⟨σ', _, a0, H0, hle, hr', ha', .exit id, hq⟩
  | goto l => exact ⟨σ', _, a0, H0, hle, hr', ha', .goto l, hq⟩
  | ret => exact ⟨σ', _, a0, H0, hle, hr', ha', .ret, hq⟩
  | panic c c' h => exact ⟨σ', _, a0, H0, hle, hr', ha', .panic c c' h, hq⟩

theorem AWP_cond {c : Operand} {x y : Code} {t : Bool} (hc : ev a c = some (.bool t)) (h : AWP P (if t then x else y) Q a H) : AWP P (.cond c x y) Q a H := by
  intro σ w a' hr ha
  have hv := ev_VR ha hc
  refine wp_cond (t := t) ?_ (h σ w a' hr ha)
  generalize a'.eval c = v at hv
  cases hv; rfl

def ABlock (id : Nat) (Q : Exit → AAct → AH → Prop) : Exit → AAct → AH → Prop
  | .exit id', a, H => if id' = id then Q .normal a H else Q (.exit id') a H
  | e, a, H => Q e a H

theorem AWP_block {id : Nat} {c : Code} (h : AWP P c (ABlock id Q) a H) : AWP P (.block id c) Q a H := by
  intro σ w a' hr ha
  refine wp_block (wp_mono (h σ w a' hr ha) ?_)
  rintro e a1 w1 ⟨σ', e0, a0, H0, hle, hr', ha', he, hq⟩
  cases he with
  | normal => exact ⟨σ', _, a0, H0, hle, hr', ha', .normal, hq⟩
  | exit id' =>
    simp only [ABlock] at hq
    simp only [Exit.inBlock]
    split at hq
    · rename_i e; rw [if_pos e]; exact ⟨σ', _, a0, H0, hle, hr', ha', .normal, hq⟩
    · rename_i e; rw [if_neg e]; exact ⟨σ', _, a0, H0, hle, hr', ha', .exit id', hq⟩
  | goto l => exact ⟨σ', _, a0, H0, hle, hr', ha', .goto l, hq⟩
  | ret => exact ⟨σ', _, a0, H0, hle, hr', ha', .ret, hq⟩
  | panic c c' h => exact ⟨σ', _, a0, H0, hle, hr', ha', .panic c c' h, hq⟩

/-- A loop: by a number that falls. -/
theorem AWP_loop {c : Code} (I : Nat → AAct → AH → Prop) (n₀ : Nat) (h₀ : I n₀ a H)
    (round : ∀ n a H, I n a H → AWP P c (AThen (fun a H => ∃ m, m < n ∧ I m a H) Q) a H) : AWP P (.loop c) Q a H := by
  intro σ w a' hr ha b k cs
  have key : ∀ n σ' w a a' H, Le σ σ' → HR P σ' H w → AR σ' a a' → I n a H →
      ∃ e a'' w'', Lift P σ Q e a'' w'' ∧ Arrives P (lone (b.at a' (.code c :: .inLoop c :: k)) cs w) b k cs e a'' w'' := by
    intro n
    induction n using Nat.strongRecOn with
    | _ n ih =>
      intro σ' w a a' H hle hr ha hI
      obtain ⟨e, a₁, w₁, ⟨σ₁, e₀, a₀, H₀, hle₁, hr₁, ha₁, he, hq⟩, harr⟩ := round n a H hI σ' w a' hr ha b (.inLoop c :: k) cs
      cases he with
      | normal =>
        obtain ⟨m, hm, hI₁⟩ := hq
        obtain ⟨e₂, a₂, w₂, hq₂, harr₂⟩ := ih m hm σ₁ w₁ a₀ a₁ H₀ (hle.trans hle₁) hr₁ ha₁ hI₁
        exact ⟨e₂, a₂, w₂, hq₂, .of_steps (Steps.trans harr (.one step_inLoop)) harr₂⟩
      | exit id => exact ⟨_, a₁, w₁, ⟨σ₁, _, a₀, H₀, hle.trans hle₁, hr₁, ha₁, .exit id, hq⟩, .pass (x := .inLoop c) rfl (fun _ _ => .inl (by simp)) harr⟩
      | goto l => exact ⟨_, a₁, w₁, ⟨σ₁, _, a₀, H₀, hle.trans hle₁, hr₁, ha₁, .goto l, hq⟩, .pass (x := .inLoop c) rfl (fun _ _ => .inl (by simp)) harr⟩
      | ret => exact ⟨_, a₁, w₁, ⟨σ₁, _, a₀, H₀, hle.trans hle₁, hr₁, ha₁, .ret, hq⟩, .pass (x := .inLoop c) rfl (fun _ _ => .inl (by simp)) harr⟩
      | panic ch ch' h => exact ⟨_, a₁, w₁, ⟨σ₁, _, a₀, H₀, hle.trans hle₁, hr₁, ha₁, .panic ch ch' h, hq⟩, .pass (x := .inLoop c) rfl (fun _ _ => .inl (by simp)) harr⟩
  obtain ⟨e, a'', w'', hq, harr⟩ := key n₀ σ w a a' H (Le.refl _) hr ha h₀
  exact ⟨e, a'', w'', hq, .of_steps (.one step_loop) harr⟩

/-! regions in the text's order -/

def AOps (P : Program) (ops : Array Oper) (Q : Exit → AAct → AH → Prop) (l : List Nat) (a : AAct) (H : AH) : Prop :=
  ∀ σ w a', HR P σ H w → AR σ a a' → wpOps P ops (Lift P σ Q) l a' w

theorem AWP_region {id : Nat} {ops : Array Oper} (h : AOps P ops Q (List.range ops.size) a H) : AWP P (.region id ops false) Q a H :=
  fun σ w a' hr ha => wp_region (h σ w a' hr ha)

theorem AOps_nil {ops : Array Oper} (h : Q .normal a H) : AOps P ops Q [] a H :=
  fun σ _ _ hr ha => ⟨σ, .normal, a, H, Le.refl _, hr, ha, .normal, h⟩

/-- Is an operation done? none: it can't be told. -/
def want (ops : Array Oper) (o : Oper) (a : AAct) : Option Bool :=
  match o.guard with
  | none => some true
  | some (j, b) =>
    match (ops[j]?).bind (·.dst) with
    | none => some false
    | some d =>
      match a.tmps d with
      | none => none
      | some (.bool c) => some (c == b)
      | some _ => some false

theorem want_AR {σ : Sig} {a : AAct} {a' : Act} (h : AR σ a a') {ops : Array Oper} {o : Oper} {b : Bool} (e : want ops o a = some b) :
    Region.wanted o (yielded ops a'.tmps) = b := by
  unfold want at e
  unfold Region.wanted
  split at e
  · rename_i hg
    cases e
    simp [hg]
  · rename_i j c hg
    simp only [hg]
    unfold yielded
    split at e
    · rename_i hd
      cases e
      simp [hd]
    · rename_i d hd
      simp only [hd, Option.bind_some]
      cases hv : a.tmps d with
      | none => simp [hv] at e
      | some v =>
        obtain ⟨v', e', hvv⟩ := h.tmps d v hv
        rw [e']
        cases hvv <;> simp [hv] at e ⊢ <;> exact e

theorem AOps_none {ops : Array Oper} {i : Nat} {rest : List Nat} (ho : ops[i]? = none) (h : AOps P ops Q rest a H) : AOps P ops Q (i :: rest) a H := by
  intro σ w a' hr ha
  simp only [wpOps, ho]
  exact h σ w _ hr ha

theorem AOps_skip {ops : Array Oper} {i : Nat} {rest : List Nat} {o : Oper} (ho : ops[i]? = some o) (hw : want ops o a = some false) (hd : dstOk a o.dst = true)
    (h : AOps P ops Q rest (a.put o.dst undef) H) : AOps P ops Q (i :: rest) a H := by
  intro σ w a' hr ha
  simp only [wpOps, ho, want_AR ha hw]
  exact h σ w _ hr (ha.put hd .undef)

/-- What an operation gives that enters no function. -/
def OpOk (P : Program) (o : Oper) (a : AAct) (H : AH) (v : Value) (H' : AH) : Prop :=
  ∀ σ w a', HR P σ H w → AR σ a a' → ∃ σ' rv w', Le σ σ' ∧ HR P σ' H' w' ∧ VR σ' v rv ∧
    ((execOp a'.eval o).run P w = .ok (.value rv) w' ∨ ((execOp a'.eval o).run P w = .ok .skip w' ∧ rv = undef))

theorem wpOps_mono {ops : Array Oper} {Q Q' : Exit → Act → World → Prop} (hq : ∀ e a w, Q e a w → Q' e a w) : ∀ (l : List Nat) (a : Act) (w : World),
    wpOps P ops Q l a w → wpOps P ops Q' l a w := by
  have hlo : LetsOut Q → LetsOut Q' := fun ⟨a, w, h⟩ => ⟨a, w, hq _ _ _ h⟩
  intro l
  induction l with
  | nil => exact fun a w h => hq _ _ _ h
  | cons i rest ih =>
    intro a w h
    simp only [wpOps] at h ⊢
    split
    · rename_i ho; simp only [ho] at h; exact ih _ _ h
    · rename_i o ho
      simp only [ho] at h
      split
      · rename_i hw
        rw [if_pos hw] at h
        refine h.imp (fun h => ?_) (fun ⟨h1, h2⟩ => ⟨h1, hlo h2⟩)
        unfold Oper.wp at *
        generalize (execOp a.eval o).run P w = r at *
        cases r with
        | ok n w' =>
          cases n <;> simp only [Oper.upon] at h ⊢ <;>
            first
              | exact ih _ _ h
              | exact Calls.mono h (fun e w'' he => by cases e <;> first | exact ih _ _ he | exact hq _ _ _ he | exact hlo he)
              | exact Rows.mono h (fun _ _ he => ih _ _ he)
        | halt x w' => cases x <;> simp only [Oper.upon] at h ⊢ <;> first | exact hq _ _ _ h | exact h
      · rename_i hw
        rw [if_neg hw] at h
        exact ih _ _ h

theorem AOps_op {ops : Array Oper} {i : Nat} {rest : List Nat} {o : Oper} (ho : ops[i]? = some o) (hw : want ops o a = some true) (hd : dstOk a o.dst = true)
    {v : Value} {H' : AH} (hop : OpOk P o a H v H') (h : AOps P ops Q rest (a.put o.dst v) H') : AOps P ops Q (i :: rest) a H := by
  intro σ w a' hr ha
  simp only [wpOps, ho, want_AR ha hw, if_true]
  refine .inl ?_
  obtain ⟨σ', rv, w', hle, hr', hv, hrun⟩ := hop σ w a' hr ha
  have hk := wpOps_mono (fun _ _ _ hl => Lift.le hle hl) _ _ _ (h σ' w' (a'.put o.dst rv) hr' ((ha.mono hle).put hd hv))
  unfold Oper.wp
  rcases hrun with hrun | ⟨hrun, rfl⟩ <;> rw [hrun] <;> exact hk

/-- What an operation does that enters a function. -/
def CallOk (P : Program) (o : Oper) (a : AAct) (g : FuncId) (args : List Value) : Prop :=
  ∀ σ w a', AR σ a a' → ∃ args' : Array Value, VRs σ args args'.toList ∧ (execOp a'.eval o).run P w = .ok (.enter g args') w

def ContQ (Q : Exit → AAct → AH → Prop) (a : AAct) (K : Value → AH → Prop) : Ending → AH → Prop
  | .returned v, H => K v H
  | .panicked ch, H => Q (.panic ch) a H
  | .outgrown, _ => False

theorem AOps_call {ops : Array Oper} {i : Nat} {rest : List Nat} {o : Oper} (ho : ops[i]? = some o) (hw : want ops o a = some true) (hd : dstOk a o.dst = true)
    {g : FuncId} {args : List Value} (hop : CallOk P o a g args) (h : ACalls P g args H (ContQ Q a fun v H' => AOps P ops Q rest (a.put o.dst v) H')) :
    AOps P ops Q (i :: rest) a H := by
  intro σ w a' hr ha
  simp only [wpOps, ho, want_AR ha hw, if_true]
  refine .inl ?_
  obtain ⟨args', hargs, hrun⟩ := hop σ w a' ha
  unfold Oper.wp
  rw [hrun]
  show Calls P g args' w _
  refine (h σ w args' hr hargs).mono ?_
  rintro e' w' ⟨σ', e, H', hle, hr', he, hR⟩
  cases he with
  | returned v v' hv => exact wpOps_mono (fun _ _ _ hl => Lift.le hle hl) _ _ _ (hR σ' w' (a'.put o.dst v') hr' ((ha.mono hle).put hd hv))
  | panicked c c' hc => exact ⟨σ', _, a, H', hle, hr', ha.mono hle, .panic c c' hc, hR⟩

end rules
end Go.Am
