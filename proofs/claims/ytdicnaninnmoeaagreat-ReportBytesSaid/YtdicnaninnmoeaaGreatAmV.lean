/- Part of the proof: an abstract machine of our own over the model; no condition. -/
import Derived.Test.YtdicnaninnmoeaaGreatAmX3
set_option linter.unusedSectionVars false
set_option linter.unusedSimpArgs false
set_option linter.unusedVariables false
set_option linter.unnecessarySimpa false
/- The abstract machine, part V: walks of functions that defer one call, and of deferred calls. -/
namespace Go.Am
open Go
variable [F : Fr]

variable {P : Program} {σ : Sig} {H : AH} {w : World}

def ABodyS (E : Env P) (x : FnI) (R : Ending → AH → FrameMode → Prop) : Exit → AAct → AH → FrameMode → Prop
  | .normal, a, H, u | .ret, a, H, u => a.defers = [] ∧ ∃ vs, aResults E a H x.results = some vs ∧ R (.returned (tupleOf vs)) H u
  | .panic ch, a, H, u => a.defers = [] ∧ R (.panicked ch) H u
  | _, _, _, _ => False

/-- A deferred call. -/
def ACallsD (P : Program) (g : FuncId) (args : List Value) (u : FrameMode) (H : AH) (R : Ending → AH → FrameMode → Prop) : Prop :=
  ∀ (σ : Sig) (w : World) (args' : Array Value) (u' : FrameMode), HR P σ H w → VRs σ args args'.toList → FR σ u u' →
    CallsD P g args' u' w fun e' u2' w' => ∃ σ' e H u2, Le σ σ' ∧ HR P σ' H w' ∧ EnR σ' e e' ∧ FR σ' u2 u2' ∧ R e H u2

theorem ACallsD_body (E : Env P) {g : FuncId} {x : FnI} (hx : FnOk P g x) {args : List Value} {u : FrameMode} {R : Ending → AH → FrameMode → Prop} (hn : args.length ≤ x.ntmps)
    (h : AWPS P x.code (ABodyS E x R) (entry args x.ntmps) H u) : ACallsD P g args u H R := by
  intro σ w args' u' hr hargs hu
  obtain ⟨fn, h1, h2, h3, h4, _⟩ := hx.ex
  refine callsD_of_wpS h1 h2 fun c₀ cs hc => ?_
  rw [h3]
  have hc2 : c₀ = { c₀ with mode := u' } := by subst hc; rfl
  have hk := h σ w _ u' c₀ cs hr (entry_AR hargs hn) hu
  rw [← hc2] at hk
  refine wpS_mono hk ?_
  rintro e' a' cs' w' ⟨σ', e0, a, H2, u0, u0', hle, hr', ha, he, hu0, rfl, hq⟩
  have ret : (a.defers = [] ∧ ∃ vs, aResults E a H2 x.results = some vs ∧ R (.returned (tupleOf vs)) H2 u0) →
      a'.defers = [] ∧ ∃ v, (results fn a'.tmps).run P w' = .ok v w' ∧ ∃ σ' e H u2, Le σ σ' ∧ HR P σ' H w' ∧ EnR σ' e (.returned v) ∧ FR σ' u2 u0' ∧ R e H u2 := by
    rintro ⟨hd, vs, hvs, hR⟩
    refine ⟨by have := ha.defers; rw [hd] at this; exact this.nil_inv, ?_⟩
    obtain ⟨vs', hrun, hvv⟩ := aResults_sound E hr' ha (rget a'.tmps) (fun t => rfl) (fun p t => rfl) _ _ hvs
    refine ⟨if h : vs'.toArray.size = 1 then vs'.toArray[0] else .tuple vs'.toArray, ?_, σ', _, H2, u0, hle, hr', .returned _ _ (VR_tupleOf (by simpa using hvv)), hu0, hR⟩
    rw [results_eq, Array.mapM_eq_mapM_toList, h4]
    simp only [Sem.run_bind, Sem.run_map, hrun, Result.andThen_ok, Sem.run_pure]
  cases he with
  | normal =>
    obtain ⟨hd, v, hv, hh⟩ := ret hq
    exact ⟨hd, u0', rfl, v, hv, hh⟩
  | ret =>
    obtain ⟨hd, v, hv, hh⟩ := ret hq
    exact ⟨hd, u0', rfl, v, hv, hh⟩
  | panic c c' hc =>
    exact ⟨by have := ha.defers; rw [hq.1] at this; exact this.nil_inv, u0', rfl, σ', _, H2, u0, hle, hr', .panicked _ _ hc, hu0, hq.2⟩
  | exit id => exact hq.elim
  | goto l => exact hq.elim

/-- How a body may end that deferred one call. -/
def ABodyD (E : Env P) (fns : FnT) (x : FnI) (R : Ending → AH → Prop) (ex : Exit) (a : AAct) (H : AH) : Prop :=
  match a.defers with
  | [] => ABody E x R ex a H
  | [d] =>
    match d.target with
    | .fn (.func g) cap => ∃ y u, fns g = some y ∧ (match ex with | .normal | .ret => u = .returning | .panic ch => u = .panicking ch | _ => False) ∧
      ACallsD P g (d.args.toList ++ cap.toList) u H fun en H1 u1 =>
        match en with
        | .returned _ => settle u1 = .returning ∧ ∃ vs, aResults E a H1 x.results = some vs ∧ R (.returned (tupleOf vs)) H1
        | _ => False
    | _ => False
  | _ => False

theorem leaves_one (E : Env P) {fns : FnT} (hfns : FnsOk P fns) {x : FnI} {fn : Func} (hres : fn.results.toList = x.results) {R : Ending → AH → Prop} {a : AAct} {a' : Act} {d : Deferred} {g : FuncId} {cap : Array Value}
    (hd : a.defers = [d]) (ht : d.target = .fn (.func g) cap) {y : FnI} (hy : fns g = some y) {u u' : FrameMode} (hrun : u ≠ .run)
    (h : ACallsD P g (d.args.toList ++ cap.toList) u H fun en H1 u1 =>
        match en with
        | .returned _ => settle u1 = .returning ∧ ∃ vs, aResults E a H1 x.results = some vs ∧ R (.returned (tupleOf vs)) H1
        | _ => False)
    {σ0 : Sig} (hle : Le σ0 σ) (hr : HR P σ H w) (ha : AR σ a a') (hu : FR σ u u') : Leaves P fn a'.tmps (LiftE P σ0 R) a'.defers u' w := by
  have hds := ha.defers
  rw [hd] at hds
  generalize a'.defers = ds' at hds
  cases hds with
  | @cons _ d' _ l' hdr hs =>
    cases hs
    have hrun' : u' ≠ .run := by rintro rfl; cases hu; exact hrun rfl
    obtain ⟨t', args'⟩ := d'
    have htr := hdr.t
    rw [ht] at htr
    simp only at htr
    cases htr with
    | fn _ _ cap' hcap =>
    have hda := hdr.a
    simp only at hda
    have hargs : VRs σ (d.args.toList ++ cap.toList) (args' ++ cap').toList := by simpa using hda.append hcap
    refine leaves_cons hrun' (callFunc_enter (hfns g y hy) _) ?_
    refine (h σ w _ u' hr hargs hu).mono ?_
    rintro e2' u2' w2 ⟨σ2, e2, H2, u2, hle2, hr2, he2, hu2, hq⟩
    cases he2 with
    | returned v v' hv =>
      obtain ⟨hset, vs, hvs, hR⟩ := hq
      have hset' := hu2.settle
      rw [hset] at hset'
      have key : ∀ m, FR σ2 .returning m → m = .returning := by intro m h; cases h; rfl
      show Leaves P fn a'.tmps (LiftE P σ0 R) [] (settle u2') w2
      rw [key _ hset']
      have ha2 := ha.mono hle2
      obtain ⟨vs', hrun2, hvv⟩ := aResults_sound E hr2 ha2 (rget a'.tmps) (fun t => rfl) (fun p t => rfl) _ _ hvs
      refine ⟨if h : vs'.toArray.size = 1 then vs'.toArray[0] else .tuple vs'.toArray, ?_, σ2, _, H2, hle.trans hle2, hr2, .returned _ _ (VR_tupleOf (by simpa using hvv)), hR⟩
      rw [results_eq, Array.mapM_eq_mapM_toList, hres]
      simp only [Sem.run_bind, Sem.run_map, hrun2, Result.andThen_ok, Sem.run_pure]
    | panicked c c' hc => exact hq.elim

/-- A call of a function that may defer one call. -/
theorem ACalls_KD (E : Env P) {fns : FnT} {pur : PureF} {pls : Plans} (hfns : FnsOk P fns) (hm : P.follows .mixedOrders = true) (hp : PureOk P pur) {f : FuncId} {x : FnI} (hf : fns f = some x)
    (hok : codeOk pls x.code = true) {c : Code} (hc : strip x.code = c) {args : List Value} {R : Ending → AH → Prop} {H : AH} (hn : args.length ≤ x.ntmps)
    (h : WK E fns pur pls c (.fin (ABodyD E fns x R)) (entry args x.ntmps) H) : ACalls P f args H R := by
  subst hc
  intro σ w args' hr hargs
  obtain ⟨fn, h1, h2, h3, h4, _⟩ := (hfns f x hf).ex
  have hb : AWP P x.code (ABodyD E fns x R) (entry args x.ntmps) H := W_sound hfns hm hp _ _ _ _ hok (W_strip _ _ _ _ _ (fun _ _ _ h => h) h)
  refine calls_of_wp_defers h1 h2 ?_
  rw [h3]
  refine wp_mono (hb σ w _ hr (entry_AR hargs hn)) ?_
  rintro e' a' w' ⟨σ', e, a, H', hle, hr', ha, he, hq⟩
  unfold ABodyD at hq
  split at hq
  · rename_i hd
    have hd' : a'.defers = [] := by have := ha.defers; rw [hd] at this; exact this.nil_inv
    have ret : (a.defers = [] ∧ ∃ vs, aResults E a H' x.results = some vs ∧ R (.returned (tupleOf vs)) H') → Leaves P fn a'.tmps (LiftE P σ R) a'.defers .returning w' := by
      rintro ⟨_, vs, hvs, hR⟩
      rw [hd']
      obtain ⟨vs', hrun, hvv⟩ := aResults_sound E hr' ha (rget a'.tmps) (fun t => rfl) (fun p t => rfl) _ _ hvs
      refine ⟨if h : vs'.toArray.size = 1 then vs'.toArray[0] else .tuple vs'.toArray, ?_, σ', _, H', hle, hr', .returned _ _ (VR_tupleOf (by simpa using hvv)), hR⟩
      rw [results_eq, Array.mapM_eq_mapM_toList, h4]
      simp only [Sem.run_bind, Sem.run_map, hrun, Result.andThen_ok, Sem.run_pure]
    cases he with
    | normal => exact ret hq
    | ret => exact ret hq
    | panic c c' hc =>
      show Leaves P fn a'.tmps (LiftE P σ R) a'.defers (.panicking c') w'
      rw [hd']
      exact ⟨σ', _, H', hle, hr', .panicked _ _ hc, hq.2⟩
    | exit id => exact hq.elim
    | goto l => exact hq.elim
  · rename_i d hd
    split at hq <;> try (exact hq.elim)
    rename_i g cap ht
    obtain ⟨y, u, hy, hu, hcall⟩ := hq
    cases he with
    | normal =>
      subst hu
      exact leaves_one E hfns h4 hd ht hy (by intro h; cases h) hcall hle hr' ha .returning
    | ret =>
      subst hu
      exact leaves_one E hfns h4 hd ht hy (by intro h; cases h) hcall hle hr' ha .returning
    | panic c c' hc =>
      subst hu
      exact leaves_one E hfns h4 hd ht hy (by intro h; cases h) hcall hle hr' ha (.panicking _ _ hc)
    | exit id => exact hu.elim
    | goto l => exact hu.elim
  · exact hq.elim

/-! a walk of a deferred function: straight down to where it recovers -/

abbrev AQS := Exit → AAct → AH → FrameMode → Prop

section
variable (E : Env P) (fns : FnT) (pur : PureF) (pls : Plans)

/-- The operation, if a region is one that recovers. -/
def recOf : Code → Option Oper
  | .region _ ops false =>
    match ops.toList with
    | [o] => if isRec o && o.guard.isNone then some o else none
    | _ => none
  | _ => none

def WS : Code → AQS → AAct → AH → FrameMode → Prop
  | .seq x y, Q, a, H, u => WS x (fun e a H u => match e with | .normal => WS y Q a H u | e => Q e a H u) a H u
  | c, Q, a, H, u =>
    match recOf c with
    | some o => dstOk a o.dst = true ∧ match recM u with | some (v, u') => Q .normal (a.put o.dst v) H u' | none => Q .normal (a.put o.dst .nilIface) H u
    | none => WK E fns pur pls c (.fin fun e a H => Q e a H u) a H

theorem WS_seq {x y : Code} {Q : AQS} {a : AAct} {u : FrameMode} : WS E fns pur pls (.seq x y) Q a H u = WS E fns pur pls x (fun e a H u => match e with | .normal => WS E fns pur pls y Q a H u | e => Q e a H u) a H u := rfl

theorem WS_other {c : Code} (hc : ∀ x y, c ≠ .seq x y) {Q : AQS} {a : AAct} {u : FrameMode} : WS E fns pur pls c Q a H u =
    (match recOf c with
    | some o => dstOk a o.dst = true ∧ match recM u with | some (v, u') => Q .normal (a.put o.dst v) H u' | none => Q .normal (a.put o.dst .nilIface) H u
    | none => WK E fns pur pls c (.fin fun e a H => Q e a H u) a H) := by
  cases c <;> first | rfl | exact absurd rfl (hc _ _)
end

variable {E : Env P} {fns : FnT} {pur : PureF} {pls : Plans}

theorem recOf_some {c : Code} {o : Oper} (h : recOf c = some o) : ∃ id ops, c = .region id ops false ∧ ops.toList = [o] ∧ isRec o = true ∧ o.guard = none := by
  unfold recOf at h
  split at h <;> try (cases h; done)
  rename_i id ops
  split at h <;> try (cases h; done)
  rename_i o' ho
  split at h <;> try (cases h; done)
  rename_i hb
  cases h
  simp only [Bool.and_eq_true, Option.isNone_iff_eq_none] at hb
  exact ⟨id, ops, rfl, ho, hb.1, hb.2⟩

theorem recOf_strip {c : Code} : recOf (strip c) = (recOf c).map stripO := by
  cases c with
  | region id ops draw =>
    cases draw with
    | true => rfl
    | false =>
      simp only [strip, recOf, Array.toList_map]
      cases ops.toList with
      | nil => rfl
      | cons o l =>
        cases l with
        | nil =>
          simp only [List.map_cons, List.map_nil]
          have e : (isRec (stripO o) && (stripO o).guard.isNone) = (isRec o && o.guard.isNone) := rfl
          rw [e]
          split <;> rfl
        | cons _ _ => rfl
  | _ => rfl

theorem WS_sound (hfns : FnsOk P fns) (hm : P.follows .mixedOrders = true) (hp : PureOk P pur) : ∀ (c : Code) (Q : AQS) (a : AAct) (H : AH) (u : FrameMode), codeOk pls c = true →
    WS E fns pur pls (strip c) Q a H u → AWPS P c Q a H u := by
  intro c
  have base : ∀ (c : Code), (∀ x y, c ≠ .seq x y) → ∀ (Q : AQS) (a : AAct) (H : AH) (u : FrameMode), codeOk pls c = true → WS E fns pur pls (strip c) Q a H u → AWPS P c Q a H u := by
    intro c hc Q a H u hok h
    have hc' : ∀ x y, strip c ≠ .seq x y := by
      intro x y
      cases c <;> first | exact absurd rfl (hc _ _) | (intro h; cases h)
    rw [WS_other E fns pur pls hc', recOf_strip] at h
    cases hr : recOf c with
    | some o =>
      rw [hr] at h
      obtain ⟨id, ops, rfl, ho, hi, hg⟩ := recOf_some hr
      simp only [Option.map_some] at h
      exact AWPS_rec ho hi hg h.1 h.2
    | none =>
      rw [hr] at h
      exact AWPS_of (W_sound hfns hm hp _ _ _ _ hok (W_strip _ _ _ _ _ (fun _ _ _ h => h) h))
  induction c with
  | seq x y ihx ihy =>
    intro Q a H u hok h
    simp only [codeOk, Bool.and_eq_true] at hok
    refine AWPS_seq ?_
    have h' : WS E fns pur pls (strip x) (fun e a H u => match e with | .normal => WS E fns pur pls (strip y) Q a H u | e => Q e a H u) a H u := h
    have mono : ∀ (c : Code) (Q Q' : AQS) (a : AAct) (H : AH) (u : FrameMode), (∀ e a H u, Q e a H u → Q' e a H u) → AWPS P c Q a H u → AWPS P c Q' a H u := by
      intro c Q Q' a H u hq h σ w a' u' c₀ cs hr ha hu
      refine wpS_mono (h σ w a' u' c₀ cs hr ha hu) ?_
      rintro e a cs w ⟨σ', e0, a0, H0, u0, u0', h1, h2, h3, h4, h5, h6, h7⟩
      exact ⟨σ', e0, a0, H0, u0, u0', h1, h2, h3, h4, h5, h6, hq _ _ _ _ h7⟩
    refine mono _ _ _ _ _ _ (fun e a H u he => ?_) (ihx _ _ _ _ hok.1 h')
    cases e with
    | normal => exact ihy _ _ _ _ hok.2 he
    | _ => exact he
  | _ => exact base _ (by intro x y h; cases h)

/-- A deferred call, out of what its body's walk shows. -/
theorem ACallsD_K (E : Env P) (hfns : FnsOk P fns) (hm : P.follows .mixedOrders = true) (hp : PureOk P pur) {f : FuncId} {x : FnI} (hf : fns f = some x)
    (hok : codeOk pls x.code = true) {c : Code} (hc : strip x.code = c) {args : List Value} {u : FrameMode} {R : Ending → AH → FrameMode → Prop} (hn : args.length ≤ x.ntmps)
    (h : WS E fns pur pls c (ABodyS E x R) (entry args x.ntmps) H u) : ACallsD P f args u H R := by
  subst hc
  exact ACallsD_body E (hfns f x hf) hn (WS_sound hfns hm hp _ _ _ _ _ hok h)

end Go.Am
