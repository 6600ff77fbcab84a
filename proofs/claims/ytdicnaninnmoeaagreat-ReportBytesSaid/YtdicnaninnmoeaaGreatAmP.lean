/- Part of the proof: an abstract machine of our own over the model; no condition. -/
import Derived.Test.YtdicnaninnmoeaaGreatAmO4
import Derived.Laws.Externs
set_option linter.unusedSectionVars false
set_option linter.unusedSimpArgs false
set_option linter.unusedVariables false
set_option linter.unnecessarySimpa false
/- The abstract machine, part P: what is read off a program. -/
namespace Go.Am
open Go

variable (P : Program)

def tyOf (t : TypeId) : Option Ty :=
  match P.info? t, P.underlying t with
  | some info, some d =>
    match info.zero with
    | some z => if z.cells.toList.all (·.oneCell') && selfRel 3 z && Nat.beq z.cells.size info.size then some ⟨d, info.size, info.bytes, z⟩ else none
    | none => none
  | _, _ => none

theorem tyOf_ok : TyOk P (tyOf P) := by
  intro t x h
  unfold tyOf at h
  split at h <;> try (cases h; done)
  rename_i info d hi hd
  split at h <;> try (cases h; done)
  rename_i z hz
  split at h <;> try (cases h; done)
  rename_i hb
  cases h
  simp only [Bool.and_eq_true] at hb
  exact ⟨hb.1.1, ⟨info, hi, rfl, rfl, hz⟩, hd, hb.1.2, Nat.eq_of_beq_eq_true hb.2⟩

def eqOkOf (t : TypeId) : Bool := !(P.stoodInHeld t) && !(P.eqGuardType P.depth t)

theorem eqOkOf_ok : EqOk P (eqOkOf P) := by
  intro t h
  simpa [eqOkOf] using h

def fnOf (f : FuncId) : Option FnI :=
  match P.funcs[f]? with
  | none => none
  | some fn =>
    match fn.body with
    | none => none
    | some c => if fn.name == "runtime.NumGoroutine" then none else some ⟨c, fn.ntmps, fn.results.toList⟩

theorem fnOf_ok : FnsOk P (fnOf P) := by
  intro f x h
  unfold fnOf at h
  split at h <;> try (cases h; done)
  rename_i fn hfn
  split at h <;> try (cases h; done)
  rename_i c hc
  split at h <;> try (cases h; done)
  rename_i hn
  cases h
  exact ⟨fn, hfn, hc, rfl, rfl, by simpa using hn⟩

/-- Plans for some functions: the others have none. -/
theorem codeOk_nil : ∀ c, codeOk [] c = true := by
  intro c
  induction c with
  | region id ops draw => cases draw <;> simp [codeOk, planFor]
  | seq a b iha ihb => simp [codeOk, iha, ihb]
  | cond c a b iha ihb => simp [codeOk, iha, ihb]
  | block id a ih => simp [codeOk, ih]
  | loop a ih => simp [codeOk, ih]
  | scope a ih => simp [codeOk, ih]
  | _ => simp [codeOk]

def plsOf (l : List (FuncId × Plans)) (f : FuncId) : Plans := (l.lookup f).getD []

def plOk1 (p : FuncId × Plans) : Bool :=
  match fnOf P p.1 with
  | some x => codeOk p.2 x.code
  | none => true

theorem lookup_mem {l : List (FuncId × Plans)} {f : FuncId} {p : Plans} (h : l.lookup f = some p) : (f, p) ∈ l := by
  induction l with
  | nil => cases h
  | cons a l ih =>
    obtain ⟨g, q⟩ := a
    simp only [List.lookup_cons] at h
    split at h
    · rename_i he
      cases h
      rw [eq_of_beq he]
      exact List.mem_cons_self
    · exact List.mem_cons_of_mem _ (ih h)

theorem plsOf_ok {l : List (FuncId × Plans)} (h : ∀ p ∈ l, plOk1 P p = true) : PlansOk (fnOf P) (plsOf l) := by
  intro f x hx
  unfold plsOf
  cases hl : l.lookup f with
  | none => exact codeOk_nil _
  | some p =>
    have := h _ (lookup_mem hl)
    unfold plOk1 at this
    simp only [hx] at this
    exact this

/-! functions without a body -/

def ExtOk1 (p : FuncId × Ext) : Prop :=
  ∃ fn, P.funcs[p.1]? = some fn ∧ (fn.name == "runtime.NumGoroutine") = false ∧ fn.body.isNone = true ∧ Extern.findNext fn = none ∧ Extern.find fn = some (extRun p.2)

def extOf (l : List (FuncId × Ext)) (f : FuncId) : Option Ext := l.lookup f

theorem ext_run {P : Program} {l : List (FuncId × Ext)} (h : ∀ p ∈ l, ExtOk1 P p) : ∀ (f : FuncId) (e : Ext), extOf l f = some e → ∀ (args : Array Value) (w : World),
    (callFunc f args).run P w = ((extRun e args).run P w).andThen fun v w' => .ok (.value v) w' := by
  intro f e hl args w
  have hm : (f, e) ∈ l := by
    clear h
    unfold extOf at hl
    induction l with
    | nil => cases hl
    | cons a l ih =>
      obtain ⟨g, q⟩ := a
      simp only [List.lookup_cons] at hl
      split at hl
      · rename_i he
        cases hl
        rw [eq_of_beq he]
        exact List.mem_cons_self
      · exact List.mem_cons_of_mem _ (ih hl)
  obtain ⟨fn, h1, h2, h3, h4, h5⟩ := h _ hm
  exact run_callFunc_extern h1 h2 h3 h4 h5 args w

def envOf (l : List (FuncId × Ext)) (h : ∀ p ∈ l, ExtOk1 P p) : Env P :=
  { ty := tyOf P, eqOk := eqOkOf P, ext := extOf l, ok := tyOf_ok P, hok := eqOkOf_ok P, hext := ext_run h }

end Go.Am
