/- Part of the proof: an abstract machine of our own over the model; no condition. -/
import Derived.Test.YtdicnaninnmoeaaGreatAmN2
set_option linter.unusedSectionVars false
set_option linter.unusedSimpArgs false
set_option linter.unusedVariables false
set_option linter.unnecessarySimpa false
/- The abstract machine, part O: an evaluator. -/
namespace Go.Am
open Go
variable [F : Fr]

variable {P : Program} {σ : Sig} {H : AH} {w : World}

structure EA where
  n : Nat
  tm : Tr Value
  defers : List Deferred

def EA.to (e : EA) : AAct := { n := e.n, tmps := e.tm.get, defers := e.defers }

def EA.put (e : EA) (d : Option Tmp) (v : Value) : EA :=
  match d with
  | some d => { n := e.n, tm := Tr.put (d + 1) e.tm d (some v), defers := e.defers }
  | none => e

theorem EA.put_to (e : EA) (d : Option Tmp) (v : Value) : (e.put d v).to = e.to.put d v := by
  cases d with
  | none => rfl
  | some d =>
    simp only [EA.put, EA.to, AAct.put]
    congr 1
    funext k
    rw [Tr.get_put _ _ _ _ _ (Nat.lt_succ_self d)]

abbrev CallF := FuncId → List Value → AH → Option (Ending × AH)

def CallSound (P : Program) (call : CallF) : Prop :=
  ∀ g args H en H', call g args H = some (en, H') → ∀ R : Ending → AH → Prop, R en H' → ACalls P g args H R

/-- Operations, one behind the other. -/
def runL (E : Env P) (fns : FnT) (call : CallF) (ops : Array Oper) : List Oper → EA → AH → Option (Exit × EA × AH)
  | [], e, H => some (.normal, e, H)
  | o :: rest, e, H =>
    match dstOk e.to o.dst, want ops o e.to with
    | true, some false => runL E fns call ops rest (e.put o.dst undef) H
    | true, some true =>
      match o.op with
      | .panic x =>
        match ev e.to x with
        | some (.iface t v) => some (.panic [{ v := .iface t v, recovered := false }], e, H)
        | _ => none
      | .defer c =>
        match deferOf fns e.to c with
        | some d => runL E fns call ops rest (({ n := e.n, tm := e.tm, defers := d :: e.defers } : EA).put o.dst undef) H
        | none => none
      | _ =>
        match opR E e.to H o with
        | some v => runL E fns call ops rest (e.put o.dst v) H
        | none =>
          match opE E e.to H o with
          | some (v, H') => runL E fns call ops rest (e.put o.dst v) H'
          | none =>
            match opC fns e.to o with
            | some (g, args) =>
              match call g args H with
              | some (.returned v, H') => runL E fns call ops rest (e.put o.dst v) H'
              | some (.panicked ch, H') => some (.panic ch, e, H')
              | _ => none
            | none => none
    | _, _ => none

theorem runL_sound (E : Env P) {fns : FnT} (hfns : FnsOk P fns) {call : CallF} (hcall : CallSound P call) {ops : Array Oper} {Q : Exit → AAct → AH → Prop} :
    ∀ (rest : List Oper) (k m : Nat) (e : EA) (H : AH) (x : Exit) (e' : EA) (H' : AH), ops.toList.drop k = rest → m = rest.length →
      runL E fns call ops rest e H = some (x, e', H') → Q x e'.to H' → AOps P ops Q (List.range' k m) e.to H := by
  intro rest
  induction rest with
  | nil =>
    intro k m e H x e' H' hk hm h hq
    simp only [runL, Option.some.injEq, Prod.mk.injEq] at h
    obtain ⟨rfl, rfl, rfl⟩ := h
    simp at hm
    subst hm
    exact AOps_nil hq
  | cons o rest ih =>
    intro k m e H x e' H' hk hm h hq
    simp at hm
    subst hm
    have ho : ops[k]? = some o := by
      have := congrArg (fun l => l[0]?) hk
      simpa using this
    have hk' : ops.toList.drop (k + 1) = rest := by
      have := congrArg List.tail hk
      simpa using this
    rw [List.range'_succ]
    have ih := fun e H x e' H' => ih (k + 1) rest.length e H x e' H' hk' rfl
    unfold runL at h
    split at h <;> try (cases h; done)
    · rename_i hd hw
      refine AOps_skip ho hw hd ?_
      rw [← EA.put_to]
      exact ih _ _ _ _ _ h hq
    · rename_i hd hw
      split at h
      · rename_i y hp
        split at h <;> try (cases h; done)
        rename_i t v hy
        simp only [Option.some.injEq, Prod.mk.injEq] at h
        obtain ⟨rfl, rfl, rfl⟩ := h
        exact AOps_panic ho hw hp hy hq
      · rename_i c hp
        split at h <;> try (cases h; done)
        rename_i d hdd
        refine AOps_defer ho hw hd hp hdd ?_
        have := ih _ _ _ _ _ h hq
        rw [EA.put_to] at this
        exact this
      · split at h
        · rename_i v hv
          refine AOps_op ho hw hd (v := v) (H' := H) (fun σ w a' hr ha => ?_) ?_
          · obtain ⟨rv, hrun, hvv⟩ := opR_sound E hr ha hv
            exact ⟨σ, rv, w, Le.refl _, hr, hvv, .inl hrun⟩
          · rw [← EA.put_to]
            exact ih _ _ _ _ _ h hq
        · split at h
          · rename_i v H2 hv
            refine AOps_op ho hw hd (v := v) (H' := H2) (fun σ w a' hr ha => ?_) ?_
            · exact opE_sound E hr ha hv
            · rw [← EA.put_to]
              exact ih _ _ _ _ _ h hq
          · split at h <;> try (cases h; done)
            rename_i g args hv
            split at h <;> try (cases h; done)
            · rename_i v H2 hc
              refine AOps_call ho hw hd (opC_sound hfns hv) (hcall _ _ _ _ _ hc _ ?_)
              show AOps P ops Q _ _ _
              rw [← EA.put_to]
              exact ih _ _ _ _ _ h hq
            · rename_i ch H2 hc
              simp only [Option.some.injEq, Prod.mk.injEq] at h
              obtain ⟨rfl, rfl, rfl⟩ := h
              exact AOps_call ho hw hd (opC_sound hfns hv) (hcall _ _ _ _ _ hc _ hq)

end Go.Am
