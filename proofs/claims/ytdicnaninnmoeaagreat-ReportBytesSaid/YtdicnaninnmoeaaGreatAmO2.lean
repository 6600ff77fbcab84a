/- Part of the proof: an abstract machine of our own over the model; no condition. -/
import Derived.Test.YtdicnaninnmoeaaGreatAmO
set_option linter.unusedSectionVars false
set_option linter.unusedSimpArgs false
set_option linter.unusedVariables false
set_option linter.unnecessarySimpa false
/- The abstract machine, part O2: the evaluator, whole. -/
namespace Go.Am
open Go
variable [F : Fr]

variable {P : Program} {σ : Sig} {H : AH} {w : World}

def veqs (f : Value → Value → Bool) : List Value → List Value → Bool
  | [], [] => true
  | x :: xs, y :: ys => f x y && veqs f xs ys
  | _, _ => false

theorem veqs_eq {f : Value → Value → Bool} (hf : ∀ x y, f x y = true → x = y) : ∀ xs ys, veqs f xs ys = true → xs = ys
  | [], [], _ => rfl
  | x :: xs, y :: ys, h => by
    simp only [veqs, Bool.and_eq_true] at h
    rw [hf x y h.1, veqs_eq hf xs ys h.2]
  | [], _ :: _, h => by cases h
  | _ :: _, [], h => by cases h

/-- Are two values the same? -/
def veq : Nat → Value → Value → Bool
  | _, .bool a, .bool b => a == b
  | _, .int j a, .int k b => decide (j = k) && decide (a = b)
  | _, .float j a, .float k b => decide (j = k) && decide (a = b)
  | _, .string a, .string b => decide (a.data.toList = b.data.toList)
  | _, .pointer a, .pointer b => decide (a = b)
  | _, .slice a n m, .slice b i j => decide (a = b) && decide (n = i) && decide (m = j)
  | _, .map a, .map b => decide (a = b)
  | _, .nilFunc, .nilFunc => true
  | _, .nilIface, .nilIface => true
  | k + 1, .agg a, .agg b => veqs (veq k) a.toList b.toList
  | k + 1, .tuple a, .tuple b => veqs (veq k) a.toList b.toList
  | k + 1, .iface t v, .iface u x => decide (t = u) && veq k v x
  | _, _, _ => false

theorem arr_eq {a b : Array Value} (h : a.toList = b.toList) : a = b := Array.ext' h

theorem veq_eq : ∀ (k : Nat) (x y : Value), veq k x y = true → x = y := by
  intro k
  induction k with
  | zero =>
    intro x y h
    unfold veq at h
    split at h <;> simp_all
    rename_i a b
    exact ByteArray.ext h
  | succ k ih =>
    intro x y h
    unfold veq at h
    split at h <;> first | (simp_all; done) | skip
    · rename_i a b
      congr 1
      apply ByteArray.ext
      exact Array.ext' (by simpa using h)
    · rename_i k' a b heq
      obtain rfl : k' = k := by omega
      rw [arr_eq (veqs_eq ih _ _ h)]
    · rename_i k' a b heq
      obtain rfl : k' = k := by omega
      rw [arr_eq (veqs_eq ih _ _ h)]
    · rename_i k' t v u x heq
      obtain rfl : k' = k := by omega
      simp only [Bool.and_eq_true, decide_eq_true_eq] at h
      rw [h.1, ih _ _ h.2]

abbrev PureF := FuncId → List Value → Option Value

def PureOk (P : Program) (pur : PureF) : Prop := ∀ g args v, pur g args = some v → PureC P g args v

/-- What reads, or answers out of its arguments. -/
def opRP (E : Env P) (fns : FnT) (pur : PureF) (a : AAct) (H : AH) (o : Oper) : Option Value :=
  match opR E a H o with
  | some v => some v
  | none =>
    match opC fns a o with
    | some (g, args) => pur g args
    | none => none

theorem opRP_Rd {E : Env P} {fns : FnT} {pur : PureF} (hp : PureOk P pur) {a : AAct} {H : AH} {o : Oper} {v : Value} (h : opRP E fns pur a H o = some v) : Rd E fns a H o v := by
  unfold opRP at h
  split at h
  · rename_i u hu
    cases h
    exact .inl hu
  · split at h <;> try (cases h; done)
    rename_i g args hc
    exact .inr ⟨g, args, hc, hp _ _ _ h⟩

def evNew (E : Env P) (fns : FnT) (pur : PureF) (ops : Array Oper) (H : AH) : List Nat → EA → Option EA
  | [], e => some e
  | i :: is, e =>
    match ops[i]? with
    | none => none
    | some o =>
      match want ops o e.to with
      | some false => evNew E fns pur ops H is (e.put o.dst undef)
      | some true =>
        match opRP E fns pur e.to H o with
        | some v => evNew E fns pur ops H is (e.put o.dst v)
        | none => none
      | none => none

def chk (E : Env P) (fns : FnT) (pur : PureF) (ops : Array Oper) (e : EA) (H : AH) (i : Nat) : Bool :=
  match ops[i]? with
  | none => false
  | some o => dstOk e.to o.dst && (
    match want ops o e.to with
    | some true =>
      match opRP E fns pur e.to H o with
      | some v =>
        match o.dst with
        | some d =>
          match e.tm.get d with
          | some u => veq 3 v u
          | none => false
        | none => true
      | none => false
    | some false =>
      match o.dst with
      | some d =>
        match e.tm.get d with
        | some u => veq 3 undef u
        | none => false
      | none => true
    | none => false)

theorem chk_Chk {E : Env P} {fns : FnT} {pur : PureF} (hp : PureOk P pur) {ops : Array Oper} {e : EA} {i : Nat} (h : chk E fns pur ops e H i = true) : Chk E fns ops e.to H i := by
  unfold chk at h
  unfold Chk
  split at h <;> try (cases h; done)
  rename_i o ho
  simp only [ho]
  rw [Bool.and_eq_true] at h
  refine ⟨h.1, ?_⟩
  have h := h.2
  split at h <;> try (cases h; done)
  · rename_i hw
    rw [hw]
    split at h <;> try (cases h; done)
    rename_i v hv
    refine ⟨v, opRP_Rd hp hv, fun d hd => ?_⟩
    rw [hd] at h
    simp only at h
    split at h <;> try (cases h; done)
    rename_i u hu
    rw [veq_eq _ _ _ h]
    exact hu
  · rename_i hw
    rw [hw]
    intro d hd
    rw [hd] at h
    simp only at h
    split at h <;> try (cases h; done)
    rename_i u hu
    rw [veq_eq _ _ _ h]
    exact hu

theorem evNew_Upd {E : Env P} {fns : FnT} {pur : PureF} {ops : Array Oper} : ∀ (is : List Nat) (e e1 : EA), evNew E fns pur ops H is e = some e1 → Upd ops is e.to e1.to := by
  intro is
  induction is with
  | nil => intro e e1 h; simp only [evNew, Option.some.injEq] at h; subst h; exact ⟨rfl, rfl, fun t _ => rfl⟩
  | cons i is ih =>
    intro e e1 h
    unfold evNew at h
    split at h <;> try (cases h; done)
    rename_i o ho
    have key : ∀ v, evNew E fns pur ops H is (e.put o.dst v) = some e1 → Upd ops (i :: is) e.to e1.to := by
      intro v h
      obtain ⟨h1, h2, h3⟩ := ih _ _ h
      rw [EA.put_to] at h1 h2 h3
      refine ⟨?_, ?_, fun t ht => ?_⟩
      · rw [h1]; cases hd : o.dst <;> rfl
      · rw [h2]; cases hd : o.dst <;> rfl
      · rw [h3 t fun j hj => ht j (by simp [hj])]
        have := ht i (by simp)
        cases hd : o.dst with
        | none => rfl
        | some d =>
          simp only [dstAt, ho, Option.bind_some, hd] at this
          have hne : ¬ t = d := fun e => this (by rw [e])
          simp [AAct.put, hne]
    split at h <;> try (cases h; done)
    · exact key _ h
    · split at h <;> try (cases h; done)
      exact key _ h

/-- A region that draws, by a plan. -/
def runPlan (E : Env P) (fns : FnT) (pur : PureF) (call : CallF) (ops : Array Oper) : List Stage → EA → AH → Option (Exit × EA × AH)
  | [], _, _ => none
  | s :: rest, e, H =>
    match evNew E fns pur ops H s.new e with
    | none => none
    | some e1 =>
      match (s.new ++ s.again).all (chk E fns pur ops e1 H) with
      | false => none
      | true =>
        match s.eff with
        | none => some (.normal, e1, H)
        | some i =>
          match ops[i]? with
          | none => none
          | some o =>
            match dstOk e1.to o.dst, want ops o e1.to with
            | true, some false => runPlan E fns pur call ops rest (e1.put o.dst undef) H
            | true, some true =>
              match opR E e1.to H o with
              | some v => runPlan E fns pur call ops rest (e1.put o.dst v) H
              | none =>
                match opE E e1.to H o with
                | some (v, H') => runPlan E fns pur call ops rest (e1.put o.dst v) H'
                | none =>
                  match opC fns e1.to o with
                  | some (g, args) =>
                    match call g args H with
                    | some (.returned v, H') => runPlan E fns pur call ops rest (e1.put o.dst v) H'
                    | some (.panicked ch, H') => some (.panic ch, { n := e1.n, tm := .e, defers := e1.defers }, H')
                    | _ => none
                  | none => none
            | _, _ => none

theorem EA.forget_to (e : EA) : ({ n := e.n, tm := .e, defers := e.defers } : EA).to = e.to.forget := by
  simp only [EA.to, AAct.forget]
  congr 1

theorem runPlan_sound (E : Env P) {fns : FnT} {pur : PureF} (hp : PureOk P pur) {call : CallF} (hcall : CallSound P call) {ops : Array Oper} {Q : Exit → AAct → AH → Prop} :
    ∀ (pl : List Stage) (e : EA) (H : AH) (x : Exit) (e' : EA) (H' : AH), runPlan E fns pur call ops pl e H = some (x, e', H') → Q x e'.to H' → RunPlan E fns ops Q pl e.to H := by
  intro pl
  induction pl with
  | nil => intro e H x e' H' h _; cases h
  | cons s rest ih =>
    intro e H x e' H' h hq
    unfold runPlan at h
    split at h <;> try (cases h; done)
    rename_i e1 he1
    split at h <;> try (cases h; done)
    rename_i hall
    refine ⟨e1.to, evNew_Upd _ _ _ he1, fun i hi => chk_Chk hp (List.all_eq_true.1 hall i hi), ?_⟩
    split at h
    · rename_i hs
      rw [hs]
      simp only [Option.some.injEq, Prod.mk.injEq] at h
      obtain ⟨rfl, rfl, rfl⟩ := h
      exact hq
    · rename_i i hs
      rw [hs]
      split at h <;> try (cases h; done)
      rename_i o ho
      simp only [AEff, ho]
      split at h <;> try (cases h; done)
      · rename_i hd hw
        refine ⟨hd, ?_⟩
        rw [hw]
        have := ih _ _ _ _ _ h hq
        rw [EA.put_to] at this
        exact this
      · rename_i hd hw
        refine ⟨hd, ?_⟩
        rw [hw]
        simp only
        split at h
        · rename_i v hv
          have := ih _ _ _ _ _ h hq
          rw [EA.put_to] at this
          exact .inl ⟨v, hv, this⟩
        · split at h
          · rename_i v H2 hv
            have := ih _ _ _ _ _ h hq
            rw [EA.put_to] at this
            exact .inr (.inl ⟨v, H2, hv, this⟩)
          · split at h <;> try (cases h; done)
            rename_i g args hv
            split at h <;> try (cases h; done)
            · rename_i v H2 hc
              have := ih _ _ _ _ _ h hq
              rw [EA.put_to] at this
              exact .inr (.inr ⟨g, args, hv, hcall _ _ _ _ _ hc _ this⟩)
            · rename_i ch H2 hc
              simp only [Option.some.injEq, Prod.mk.injEq] at h
              obtain ⟨rfl, rfl, rfl⟩ := h
              rw [EA.forget_to] at hq
              exact .inr (.inr ⟨g, args, hv, hcall _ _ _ _ _ hc _ hq⟩)

end Go.Am
