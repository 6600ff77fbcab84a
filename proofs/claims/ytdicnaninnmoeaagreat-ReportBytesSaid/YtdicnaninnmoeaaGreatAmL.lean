/- Part of the proof: an abstract machine of our own over the model; no condition. -/
import Derived.Test.YtdicnaninnmoeaaGreatAmK2
set_option linter.unusedSectionVars false
set_option linter.unusedSimpArgs false
set_option linter.unusedVariables false
set_option linter.unnecessarySimpa false
/- The abstract machine, part L: calls, panics, bodies. -/
namespace Go.Am
open Go
variable [F : Fr]

/-- A function with a body. -/
structure FnI where
  code : Code
  ntmps : Nat
  results : List ResultVar

structure FnOk (P : Program) (f : FuncId) (x : FnI) : Prop where
  ex : ∃ fn, P.funcs[f]? = some fn ∧ fn.body = some x.code ∧ fn.ntmps = x.ntmps ∧ fn.results.toList = x.results ∧ (fn.name == "runtime.NumGoroutine") = false

abbrev FnT := FuncId → Option FnI

def FnsOk (P : Program) (fns : FnT) : Prop := ∀ f x, fns f = some x → FnOk P f x

variable {P : Program} {σ : Sig} {H : AH} {w : World}

theorem callFunc_enter {f : FuncId} {x : FnI} (h : FnOk P f x) (args : Array Value) : (callFunc f args).run P w = .ok (.enter f args) w := by
  obtain ⟨fn, h1, h2, _, _, h5⟩ := h.ex
  have h6 : ¬ fn.name = "runtime.NumGoroutine" := by simpa using h5
  simp [callFunc, h1, h2, h6]

/-- Which function is entered, with what. -/
def opC (fns : FnT) (a : AAct) (o : Oper) : Option (FuncId × List Value) :=
  match o.op with
  | .call c =>
    match c.callee with
    | .value x =>
      match ev a x, evs a c.args.toList with
      | some (.func (.func g) first captured), some vs =>
        match fns g with
        | some _ => some (g, first.toList ++ vs ++ captured.toList)
        | none => none
      | _, _ => none
    | _ => none
  | _ => none

theorem opC_sound {fns : FnT} (hf : FnsOk P fns) {a : AAct} {o : Oper} {g : FuncId} {args : List Value} (h : opC fns a o = some (g, args)) : CallOk P o a g args := by
  intro σ w a' ha
  unfold opC at h
  split at h <;> try (cases h; done)
  rename_i c ho
  split at h <;> try (cases h; done)
  rename_i x hc
  split at h <;> try (cases h; done)
  rename_i g' first captured vs hx hvs
  split at h <;> try (cases h; done)
  rename_i fi hfi
  cases h
  have hv := ev_VR ha hx
  have hargs := evs_VRs ha hvs
  generalize hxe : a'.eval x = u at hv
  cases hv with
  | func _ f f' c' c'' hff hcc =>
    refine ⟨f' ++ (c.args.map a'.eval) ++ c'', ?_, ?_⟩
    · simpa [List.append_assoc] using hff.append (hargs.append hcc)
    · simp only [execOp, ho, resolve, hc, hxe, Deferred.ofValue, Sem.run_bind, Sem.run_pure, Result.andThen_ok, invoke]
      exact callFunc_enter (hf g fi hfi) _

section rules
variable {Q : Exit → AAct → AH → Prop} {a : AAct}

theorem AOps_panic {ops : Array Oper} {i : Nat} {rest : List Nat} {o : Oper} (ho : ops[i]? = some o) (hw : want ops o a = some true)
    {x : Operand} (hp : o.op = .panic x) {t : TypeId} {v : Value} (hx : ev a x = some (.iface t v)) (h : Q (.panic [{ v := .iface t v, recovered := false }]) a H) :
    AOps P ops Q (i :: rest) a H := by
  intro σ w a' hr ha
  simp only [wpOps, ho, want_AR ha hw, if_true]
  refine .inl ?_
  have hv := ev_VR ha hx
  unfold Oper.wp
  simp only [execOp, hp]
  generalize a'.eval x = u at hv
  cases hv with
  | iface _ _ v' hvv =>
    have : ((do pure (.value (← Instr.panic (.iface t v'))) : Sem Next)).run P w = .halt (.panic (.iface t v')) w := by simp [Instr.panic]
    rw [this]
    exact ⟨σ, .panic [{ v := .iface t v, recovered := false }], a, H, Le.refl _, hr, ha, .panic _ _ (.cons ⟨.iface _ _ _ hvv, rfl, rfl⟩ .nil), h⟩

def deferOf (fns : FnT) (a : AAct) (c : Call) : Option Deferred :=
  match c.callee with
  | .value x =>
    match ev a x, evs a c.args.toList with
    | some (.func fn first captured), some vs => some { target := .fn fn captured, args := first ++ vs.toArray }
    | _, _ => none
  | _ => none

theorem AOps_defer {fns : FnT} {ops : Array Oper} {i : Nat} {rest : List Nat} {o : Oper} (ho : ops[i]? = some o) (hw : want ops o a = some true) (hd : dstOk a o.dst = true)
    {c : Call} (hp : o.op = .defer c) {d : Deferred} (hx : deferOf fns a c = some d) (h : AOps P ops Q rest (({ a with defers := d :: a.defers } : AAct).put o.dst undef) H) :
    AOps P ops Q (i :: rest) a H := by
  intro σ w a' hr ha
  simp only [wpOps, ho, want_AR ha hw, if_true]
  refine .inl ?_
  unfold deferOf at hx
  split at hx <;> try (cases hx; done)
  rename_i x hc
  split at hx <;> try (cases hx; done)
  rename_i fn first captured vs hxx hvs
  cases hx
  have hv := ev_VR ha hxx
  have hargs := evs_VRs ha hvs
  unfold Oper.wp
  simp only [execOp, hp]
  generalize hxe : a'.eval x = u at hv
  cases hv with
  | func _ f f' c' c'' hff hcc =>
    have : ((do pure (.defer (← resolve a'.eval c o.type)) : Sem Next)).run P w = .ok (.defer { target := .fn fn c'', args := f' ++ c.args.map a'.eval }) w := by
      simp [resolve, hc, hxe, Deferred.ofValue]
    rw [this]
    have har : AR σ { a with defers := { target := .fn fn captured, args := first ++ vs.toArray } :: a.defers }
        { a' with defers := { target := .fn fn c'', args := f' ++ c.args.map a'.eval } :: a'.defers } :=
      ⟨ha.n, ha.tmps, .cons ⟨.fn _ _ _ hcc, by simpa using hff.append (by simpa using hargs)⟩ ha.defers⟩
    exact h σ w _ hr (har.put hd .undef)

end rules

/-! bodies -/

def aResult (E : Env P) (a : AAct) (H : AH) : ResultVar → Option Value
  | .tmp t => a.tmps t
  | .cell p t => (a.tmps p).bind fun u => aLoad E.ty H t u

def aResults (E : Env P) (a : AAct) (H : AH) : List ResultVar → Option (List Value)
  | [] => some []
  | r :: rs =>
    match aResult E a H r with
    | none => none
    | some v =>
      match aResults E a H rs with
      | none => none
      | some vs => some (v :: vs)

def tupleOf : List Value → Value
  | [v] => v
  | vs => .tuple vs.toArray

theorem aResult_sound (E : Env P) {a : AAct} {a' : Act} (hr : HR P σ H w) (ha : AR σ a a') {r : ResultVar} {v : Value} (h : aResult E a H r = some v) :
    ∃ v', ((match r with
      | .tmp t => pure (a'.tmps.getD t undef)
      | .cell p t => do loadVar t (← asAddr (a'.tmps.getD p undef))) : Sem Value).run P w = .ok v' w ∧ VR σ v v' := by
  cases r with
  | tmp t =>
    obtain ⟨v', e, hv⟩ := ha.tmps t v h
    exact ⟨v', by simp [Array.getD_eq_getD_getElem?, e], hv⟩
  | cell p t =>
    simp only [aResult, Option.bind_eq_some_iff] at h
    obtain ⟨u, hu, h⟩ := h
    obtain ⟨u', e, hv⟩ := ha.tmps p u hu
    obtain ⟨rv, hrun, hvv⟩ := aLoad_sound E.ok hr hv h
    refine ⟨rv, ?_, hvv⟩
    have hp : ∃ q, u' = .pointer (some q) := by
      unfold aLoad at h
      split at h <;> try (cases h; done)
      cases hv
      exact ⟨_, rfl⟩
    obtain ⟨q, rfl⟩ := hp
    simp only [Array.getD_eq_getD_getElem?, e, Option.getD_some, asAddr]
    simpa [Instr.loadAt, Instr.sureAddr] using hrun

theorem aResults_sound (E : Env P) {a : AAct} {a' : Act} (hr : HR P σ H w) (ha : AR σ a a') (g : ResultVar → Sem Value)
    (h1 : ∀ t, g (.tmp t) = pure (a'.tmps.getD t undef)) (h2 : ∀ p t, g (.cell p t) = (do loadVar t (← asAddr (a'.tmps.getD p undef)))) :
    ∀ (rs : List ResultVar) (vs : List Value), aResults E a H rs = some vs → ∃ vs' : List Value, (rs.mapM g).run P w = .ok vs' w ∧ VRs σ vs vs' := by
  intro rs
  induction rs with
  | nil => intro vs h; simp [aResults] at h; subst h; exact ⟨[], by simp, .nil⟩
  | cons r rs ih =>
    intro vs h
    simp only [aResults] at h
    split at h <;> try (cases h; done)
    rename_i v hv
    split at h <;> try (cases h; done)
    rename_i us hus
    cases h
    obtain ⟨v', hrun, hvv⟩ := aResult_sound E hr ha hv
    obtain ⟨vs', hrun', hvs⟩ := ih us hus
    refine ⟨v' :: vs', ?_, .cons hvv hvs⟩
    have hg : (g r).run P w = .ok v' w := by
      cases r with
      | tmp t => rw [h1]; exact hrun
      | cell p t => rw [h2]; exact hrun
    simp only [List.mapM_cons, Sem.run_bind, hg, hrun', Result.andThen_ok, Sem.run_pure]

def rget (tmps : Array Value) : ResultVar → Sem Value
  | .tmp t => pure (tmps.getD t undef)
  | .cell a t => do loadVar t (← asAddr (tmps.getD a undef))

theorem results_eq (fn : Func) (tmps : Array Value) : results fn tmps = (do
    let vs ← fn.results.mapM (rget tmps)
    pure (if h : vs.size = 1 then vs[0] else .tuple vs)) := rfl

theorem VR_tupleOf {vs : List Value} {vs' : Array Value} (h : VRs σ vs vs'.toList) : VR σ (tupleOf vs) (if h : vs'.size = 1 then vs'[0] else .tuple vs') := by
  have hl := h.length
  simp at hl
  by_cases h1 : vs'.size = 1
  · rw [dif_pos h1]
    obtain ⟨v, rfl⟩ : ∃ v, vs = [v] := List.length_eq_one_iff.1 (by omega)
    obtain ⟨v', e, hv⟩ := h.one
    have : vs'[0] = v' := by
      have := congrArg (fun l : List Value => l[0]?) e
      simp [h1] at this
      exact this
    simp only [tupleOf, this]
    exact hv
  · rw [dif_neg h1]
    have : tupleOf vs = .tuple vs.toArray := by
      unfold tupleOf
      split
      · simp at hl; omega
      · rfl
    rw [this]
    exact .tuple _ _ (by simpa using h)

/-- The entry frame. -/
def argT : Nat → List Value → Nat → Option Value
  | _, [] => fun _ => none
  | k, v :: vs => fun t => if t = k then some v else argT (k + 1) vs t

def entry (args : List Value) (n : Nat) : AAct := { n := n, tmps := argT 0 args, defers := [] }

theorem argT_get : ∀ (args : List Value) (k t : Nat) (v : Value), argT k args t = some v → k ≤ t ∧ args[t - k]? = some v := by
  intro args
  induction args with
  | nil => intro k t v h; simp [argT] at h
  | cons u us ih =>
    intro k t v h
    simp only [argT] at h
    split at h
    · rename_i e; subst e; cases h; exact ⟨Nat.le_refl _, by simp⟩
    · rename_i e
      obtain ⟨h1, h2⟩ := ih _ _ _ h
      refine ⟨by omega, ?_⟩
      have : t - k = (t - (k + 1)) + 1 := by omega
      rw [this]
      simpa using h2

theorem entry_AR {args : List Value} {args' : Array Value} {n : Nat} (h : VRs σ args args'.toList) (hn : args.length ≤ n) :
    AR σ (entry args n) { tmps := args' ++ Array.replicate (n - args'.size) undef, defers := [] } := by
  have hl := h.length
  simp at hl
  refine ⟨by simp [entry]; omega, fun t v e => ?_, .nil⟩
  obtain ⟨h1, h2⟩ := argT_get _ _ _ _ e
  simp only [Nat.sub_zero] at h2
  obtain ⟨v', e', hv⟩ := h.get? t h2
  have hlt : t < args'.size := by
    rcases Nat.lt_or_ge t args'.toList.length with hh | hh
    · simpa using hh
    · rw [List.getElem?_eq_none hh] at e'; cases e'
  refine ⟨v', ?_, hv⟩
  rw [Array.getElem?_append_left hlt]
  simpa using e'

/-- How a body may end. -/
def ABody (E : Env P) (x : FnI) (R : Ending → AH → Prop) : Exit → AAct → AH → Prop
  | .normal, a, H | .ret, a, H => a.defers = [] ∧ ∃ vs, aResults E a H x.results = some vs ∧ R (.returned (tupleOf vs)) H
  | .panic ch, a, H => a.defers = [] ∧ R (.panicked ch) H
  | _, _, _ => False

theorem DRs.nil_inv {l : List Deferred} (h : DRs σ [] l) : l = [] := by cases h; rfl

theorem ABody_bodyPost (E : Env P) {x : FnI} {fn : Func} (hres : fn.results.toList = x.results) {R : Ending → AH → Prop} {e : Exit} {a' : Act} (h : Lift P σ (ABody E x R) e a' w) :
    bodyPost P fn (LiftE P σ R) e a' w := by
  obtain ⟨σ', e0, a, H, hle, hr, ha, he, hq⟩ := h
  have ret : (a.defers = [] ∧ ∃ vs, aResults E a H x.results = some vs ∧ R (.returned (tupleOf vs)) H) →
      a'.defers = [] ∧ ∃ v, (results fn a'.tmps).run P w = .ok v w ∧ LiftE P σ R (.returned v) w := by
    rintro ⟨hd, vs, hvs, hR⟩
    refine ⟨by have := ha.defers; rw [hd] at this; exact this.nil_inv, ?_⟩
    obtain ⟨vs', hrun, hvv⟩ := aResults_sound E hr ha (rget a'.tmps) (fun t => rfl) (fun p t => rfl) _ _ hvs
    refine ⟨if h : vs'.toArray.size = 1 then vs'.toArray[0] else .tuple vs'.toArray, ?_, σ', _, H, hle, hr, .returned _ _ (VR_tupleOf (by simpa using hvv)), hR⟩
    rw [results_eq, Array.mapM_eq_mapM_toList, hres]
    simp only [Sem.run_bind, Sem.run_map, hrun, Result.andThen_ok, Sem.run_pure]
  cases he with
  | normal => exact ret hq
  | ret => exact ret hq
  | panic c c' hc => exact ⟨by have := ha.defers; rw [hq.1] at this; exact this.nil_inv, σ', _, H, hle, hr, .panicked _ _ hc, hq.2⟩
  | exit id => exact hq.elim
  | goto l => exact hq.elim

/-- A call, out of the function's body. -/
theorem ACalls_body (E : Env P) {f : FuncId} {x : FnI} (hf : FnOk P f x) {args : List Value} {R : Ending → AH → Prop} (hn : args.length ≤ x.ntmps)
    (h : AWP P x.code (ABody E x R) (entry args x.ntmps) H) : ACalls P f args H R := by
  intro σ w args' hr hargs
  obtain ⟨fn, h1, h2, h3, h4, _⟩ := hf.ex
  refine calls_of_wp h1 h2 ?_
  rw [h3]
  exact wp_mono (h σ w _ hr (entry_AR hargs hn)) fun _ _ _ hl => ABody_bodyPost E h4 hl

end Go.Am
