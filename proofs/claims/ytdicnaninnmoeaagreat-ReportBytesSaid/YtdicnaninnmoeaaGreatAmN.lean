/- Part of the proof: an abstract machine of our own over the model; no condition. -/
import Derived.Test.YtdicnaninnmoeaaGreatAmM
set_option linter.unusedSectionVars false
set_option linter.unusedSimpArgs false
set_option linter.unusedVariables false
set_option linter.unnecessarySimpa false
/- The abstract machine, part N: regions that draw their order. -/
namespace Go.Am
open Go
variable [F : Fr]

variable {P : Program} {σ : Sig} {H : AH} {w : World}

/-- A stage: what is read first here, what is read again, what is done then. -/
structure Stage where
  new : List Nat
  again : List Nat
  eff : Option Nat

def effL : Option Nat → List Nat
  | none => []
  | some e => [e]

def fut : List Stage → List Nat
  | [] => []
  | s :: r => s.new ++ effL s.eff ++ fut r

def anyPreds (ops : Array Oper) (i : Nat) : List Nat :=
  match ops[i]? with
  | none => []
  | some o => (o.after.toList.filter (Region.binds .any)).map (·.on)

def okFrom (ops : Array Oper) : List Stage → Bool
  | [] => false
  | s :: rest =>
    (fut rest).all (fun i => (anyPreds ops i).any fun p => (effL s.eff ++ fut rest).contains p) &&
    match s.eff, rest with
    | none, [] => true
    | some e, s' :: _ => !(s.new ++ s.again).contains e && (s.new ++ s.again).all (fun i => s'.again.contains i || (anyPreds ops e).contains i) && okFrom ops rest
    | _, _ => false

def readsOf (pl : List Stage) : List Nat := pl.flatMap (·.new)

def looks (ops : Array Oper) (i : Nat) : List Tmp :=
  match ops[i]? with
  | none => []
  | some o => o.looksAt ops

def dstAt (ops : Array Oper) (i : Nat) : Option Tmp := (ops[i]?).bind (·.dst)

def planOk (ops : Array Oper) (pl : List Stage) : Bool :=
  okFrom ops pl &&
  (List.range ops.size).all (fun i => (fut pl).contains i) &&
  (List.range ops.size).all (fun i => (anyPreds ops i).all (· < i)) &&
  (List.range ops.size).all (fun i => (readsOf pl).all fun j =>
    match dstAt ops j with
    | none => true
    | some d => (!(looks ops i).contains d || (anyPreds ops i).contains j) && (i == j || dstAt ops i != some d))

/-- Nothing is known of the slots. -/
def AAct.forget (a : AAct) : AAct := { a with tmps := fun _ => none }

def AEff (E : Env P) (fns : FnT) (ops : Array Oper) (Q : Exit → AAct → AH → Prop) (i : Nat) (K : AAct → AH → Prop) (a : AAct) (H : AH) : Prop :=
  match ops[i]? with
  | none => False
  | some o => dstOk a o.dst = true ∧
    match want ops o a with
    | some false => K (a.put o.dst undef) H
    | some true =>
      (∃ v, opR E a H o = some v ∧ K (a.put o.dst v) H) ∨
      (∃ v H', opE E a H o = some (v, H') ∧ K (a.put o.dst v) H') ∨
      (∃ g args, opC fns a o = some (g, args) ∧ ACalls P g args H (ContQ Q a.forget fun v H' => K (a.put o.dst v) H'))
    | none => False

/-- A call that answers out of its arguments, and leaves the heap as it is. -/
def PureC (P : Program) (g : FuncId) (args : List Value) (v : Value) : Prop :=
  ∀ (H : AH) (R : Ending → AH → Prop), R (.returned v) H → ACalls P g args H R

def Rd (E : Env P) (fns : FnT) (a : AAct) (H : AH) (o : Oper) (v : Value) : Prop :=
  opR E a H o = some v ∨ ∃ g args, opC fns a o = some (g, args) ∧ PureC P g args v

def Chk (E : Env P) (fns : FnT) (ops : Array Oper) (a : AAct) (H : AH) (i : Nat) : Prop :=
  match ops[i]? with
  | none => False
  | some o => dstOk a o.dst = true ∧
    match want ops o a with
    | some true => ∃ v, Rd E fns a H o v ∧ ∀ d, o.dst = some d → a.tmps d = some v
    | some false => ∀ d, o.dst = some d → a.tmps d = some undef
    | none => False

/-- a1 is a, but for the slots of these operations. -/
def Upd (ops : Array Oper) (l : List Nat) (a a1 : AAct) : Prop :=
  a1.n = a.n ∧ a1.defers = a.defers ∧ ∀ t, (∀ j ∈ l, dstAt ops j ≠ some t) → a1.tmps t = a.tmps t

def RunPlan (E : Env P) (fns : FnT) (ops : Array Oper) (Q : Exit → AAct → AH → Prop) : List Stage → AAct → AH → Prop
  | [], _, _ => False
  | s :: rest, a, H => ∃ a1, Upd ops s.new a a1 ∧ (∀ i ∈ s.new ++ s.again, Chk E fns ops a1 H i) ∧
    match s.eff with
    | none => Q .normal a1 H
    | some e => AEff E fns ops Q e (fun a2 H2 => RunPlan E fns ops Q rest a2 H2) a1 H

/-! the proof -/

def AAct.only (a : AAct) (ls : List Tmp) : AAct := { a with tmps := fun t => if t ∈ ls then a.tmps t else none }

theorem mem_looksAt {ops : Array Oper} {o : Oper} {t : Tmp} (h : Operand.tmp t ∈ o.op.operands) : t ∈ o.looksAt ops := by
  unfold Oper.looksAt
  refine List.mem_append_left _ ?_
  rw [List.mem_filterMap]
  exact ⟨.tmp t, by simpa using h, rfl⟩

theorem ev_only {ops : Array Oper} {o : Oper} (a : AAct) : ∀ x ∈ o.op.operands, ev (a.only (o.looksAt ops)) x = ev a x := by
  intro x hx
  cases x with
  | tmp t => simp only [ev, AAct.only, if_pos (mem_looksAt (ops := ops) hx)]
  | const v => rfl
  | global g => rfl
  | func f => rfl

theorem want_only {ops : Array Oper} {o : Oper} (a : AAct) : want ops o (a.only (o.looksAt ops)) = want ops o a := by
  unfold want
  cases hg : o.guard with
  | none => rfl
  | some p =>
    obtain ⟨j, b⟩ := p
    simp only
    cases hd : (ops[j]?).bind (·.dst) with
    | none => rfl
    | some d =>
      have : d ∈ o.looksAt ops := by
        unfold Oper.looksAt
        refine List.mem_append_right _ ?_
        simp [hg, hd]
      simp only [AAct.only, if_pos this]

structure DInv (ops : Array Oper) (rd : List Nat) (listed : Array Bool) (s : Stage) (rest : List Stage) (σ : Sig) (a : AAct) (a' : Act) : Prop where
  size : listed.size = ops.size
  n : a'.tmps.size = a.n
  defers : DRs σ a.defers a'.defers
  futU : ∀ i, i ∈ effL s.eff ++ fut rest → listed.getD i true = true → ops.size ≤ i
  cover : ∀ i, i < ops.size → listed.getD i true = true ∨ i ∈ s.new ++ s.again ∨ i ∈ effL s.eff ++ fut rest
  closed : ∀ i, i < ops.size → listed.getD i true = true → ∀ p ∈ anyPreds ops i, listed.getD p true = true
  slots : ∀ t v, a.tmps t = some v → (∀ j ∈ rd, dstAt ops j = some t → listed.getD j true = true) → ∃ v', a'.tmps[t]? = some v' ∧ VR σ v v'

theorem ready_mem {ops : Array Oper} {listed : Array Bool} {i : Nat} (h : i ∈ Region.ready .any ops listed) :
    i < ops.size ∧ listed.getD i true = false ∧ ∀ p ∈ anyPreds ops i, listed.getD p true = true ∨ listed.getD p false = true := by
  unfold Region.ready at h
  rw [List.mem_filter] at h
  obtain ⟨h1, h2⟩ := h
  have hlt : i < ops.size := by simpa using h1
  simp only [Bool.and_eq_true, Bool.not_eq_true'] at h2
  refine ⟨hlt, h2.1, fun p hp => ?_⟩
  have h3 := h2.2
  have ho : ops[i]? = some ops[i] := by simp [hlt]
  rw [ho] at h3
  unfold anyPreds at hp
  rw [ho] at hp
  simp only [Option.map_some, Option.getD_some, Array.all_eq_true', Bool.or_eq_true, Bool.not_eq_true'] at h3
  simp only [List.mem_map, List.mem_filter] at hp
  obtain ⟨e, ⟨he, hb⟩, rfl⟩ := hp
  have := h3 e (by simpa using he)
  rcases this with h | h
  · rw [hb] at h; cases h
  · exact .inr h

theorem getD_both {l : Array Bool} {p : Nat} (h : l.getD p true = true ∨ l.getD p false = true) : l.getD p true = true := by
  rcases h with h | h
  · exact h
  · simp only [Array.getD_eq_getD_getElem?] at h ⊢
    cases e : l[p]? with
    | none => rfl
    | some b => rw [e] at h; exact h

theorem getD_set {l : Array Bool} {i p : Nat} (h : (l.setIfInBounds i true).getD p true = true) (hne : p ≠ i) : l.getD p true = true := by
  simp only [Array.getD_eq_getD_getElem?, Array.getElem?_setIfInBounds_ne (Ne.symm hne)] at h ⊢
  exact h

theorem getD_set_mono {l : Array Bool} {i p : Nat} (h : l.getD p true = true) : (l.setIfInBounds i true).getD p true = true := by
  by_cases hne : p = i
  · subst hne
    simp only [Array.getD_eq_getD_getElem?, Array.getElem?_setIfInBounds]
    simp only [if_true]
    split <;> rfl
  · simp only [Array.getD_eq_getD_getElem?, Array.getElem?_setIfInBounds_ne (Ne.symm hne)] at h ⊢
    exact h

theorem getD_set_self {l : Array Bool} {i : Nat} : (l.setIfInBounds i true).getD i true = true := by
  simp only [Array.getD_eq_getD_getElem?, Array.getElem?_setIfInBounds, if_true]
  split <;> rfl

structure PFacts (ops : Array Oper) (rd : List Nat) : Prop where
  look : ∀ i, i < ops.size → ∀ j ∈ rd, ∀ d, dstAt ops j = some d → d ∈ looks ops i → j ∈ anyPreds ops i
  dst : ∀ i, i < ops.size → ∀ j ∈ rd, ∀ d, dstAt ops j = some d → i ≠ j → dstAt ops i ≠ some d
  back : ∀ i, i < ops.size → ∀ p ∈ anyPreds ops i, p < i

/-- The slots that an operation looks at, as they are. -/
theorem DInv.restr {ops : Array Oper} {rd : List Nat} {listed : Array Bool} {s : Stage} {rest : List Stage} {a : AAct} {a' : Act} (hf : PFacts ops rd)
    (hinv : DInv ops rd listed s rest σ a a') {i : Nat} {o : Oper} (ho : ops[i]? = some o) (hi : i < ops.size)
    (hp : ∀ p ∈ anyPreds ops i, listed.getD p true = true) : AR σ (a.only (o.looksAt ops)) a' := by
  refine ⟨hinv.n, fun t v e => ?_, hinv.defers⟩
  simp only [AAct.only] at e
  split at e <;> try (cases e; done)
  rename_i ht
  refine hinv.slots t v e fun j hj hd => hp j (hf.look i hi j hj t hd ?_)
  simpa [looks, ho] using ht

theorem DInv.listRead {ops : Array Oper} {rd : List Nat} {listed : Array Bool} {s : Stage} {rest : List Stage} {a : AAct} {a' : Act} (hf : PFacts ops rd)
    (hinv : DInv ops rd listed s rest σ a a') {i : Nat} {o : Oper} (ho : ops[i]? = some o) (hi : i < ops.size) (hnf : i ∉ effL s.eff ++ fut rest)
    (hp : ∀ p ∈ anyPreds ops i, listed.getD p true = true) {v : Value} {v' : Value} (hd : dstOk a o.dst = true) (hv : VR σ v v') (hav : ∀ d, o.dst = some d → a.tmps d = some v) :
    DInv ops rd (listed.setIfInBounds i true) s rest σ a (a'.put o.dst v') := by
  refine ⟨by simpa using hinv.size, ?_, ?_, fun k hk hl => ?_, fun k hk => ?_, fun k hk hl p hpp => ?_, fun t u e hl => ?_⟩
  · have := hinv.n
    cases hdd : o.dst <;> simpa [Act.put] using this
  · have := hinv.defers
    cases hdd : o.dst <;> simpa [Act.put] using this
  · have hne : k ≠ i := fun e => hnf (e ▸ hk)
    exact hinv.futU k hk (getD_set hl hne)
  · rcases hinv.cover k hk with h | h | h
    · exact .inl (getD_set_mono h)
    · exact .inr (.inl h)
    · exact .inr (.inr h)
  · by_cases hki : k = i
    · subst hki; exact getD_set_mono (hp p hpp)
    · exact getD_set_mono (hinv.closed k hk (getD_set hl hki) p hpp)
  · by_cases hdt : o.dst = some t
    · rw [hdt] at hd
      simp [dstOk] at hd
      have := hav t hdt
      rw [e] at this
      cases this
      refine ⟨v', ?_, hv⟩
      rw [hdt]
      simp [Act.put, Array.getElem?_setIfInBounds, hinv.n, hd]
    · obtain ⟨u', e', hu⟩ := hinv.slots t u e fun j hj hjd => by
        by_cases hji : j = i
        · subst hji
          exfalso
          apply hdt
          simpa [dstAt, ho] using hjd
        · exact getD_set (hl j hj hjd) hji
      refine ⟨u', ?_, hu⟩
      cases hdd : o.dst with
      | none => simpa [Act.put] using e'
      | some d =>
        have : d ≠ t := fun e => hdt (e ▸ hdd)
        simpa [Act.put, Array.getElem?_setIfInBounds_ne this] using e'

end Go.Am
