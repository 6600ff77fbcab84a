/- Part of the proof: an abstract machine of our own over the model; no condition. -/
import Derived.Test.YtdicnaninnmoeaaGreatAmL
import Derived.Orders
set_option linter.unusedSectionVars false
set_option linter.unusedSimpArgs false
set_option linter.unusedVariables false
set_option linter.unnecessarySimpa false
/- The abstract machine, part M: what an operation looks at. -/
namespace Go.Am
open Go
variable [F : Fr]

variable {P : Program} {σ : Sig} {H : AH} {w : World}

theorem evs_congr {a b : AAct} : ∀ {xs : List Operand}, (∀ x ∈ xs, ev b x = ev a x) → evs b xs = evs a xs
  | [], _ => rfl
  | x :: xs, h => by
    simp only [evs, h x (by simp), evs_congr (xs := xs) fun y hy => h y (by simp [hy])]

theorem evParts_congr {a b : AAct} : ∀ {xs : List (Nat × Operand)}, (∀ x ∈ xs.map (·.2), ev b x = ev a x) → evParts b xs = evParts a xs
  | [], _ => rfl
  | (i, x) :: xs, h => by
    simp only [evParts, h x (by simp), evParts_congr (xs := xs) fun y hy => h y (by simp only [List.map_cons, List.mem_cons]; exact .inr hy)]

theorem evO_congr {a b : AAct} {x : Option Operand} (h : ∀ y ∈ x.toArray, ev b y = ev a y) : evO b x = evO a x := by
  cases x with
  | none => rfl
  | some x => simp [evO, h x (by simp)]

theorem opR_congr (E : Env P) {a b : AAct} {o : Oper} (h : ∀ x ∈ o.op.operands, ev b x = ev a x) : opR E b H o = opR E a H o := by
  unfold opR
  cases ho : o.op <;> simp only [ho, Op.operands] at h ⊢
  case move x => rw [h x (by simp)]
  case assign x => rw [h x (by simp)]
  case pick c x y => rw [h c (by simp), h x (by simp), h y (by simp)]
  case build t ps => rw [evParts_congr fun x hx => h x (by simpa using hx)]
  case load t x => rw [h x (by simp)]
  case nilCheck x => rw [h x (by simp)]
  case binOp op t x y yt => rw [h x (by simp), h y (by simp)]
  case unOp op t x => rw [h x (by simp)]
  case typeAssert x xt t k => rw [h x (by simp)]
  case convert s d x => rw [h x (by simp)]
  case makeInterface t x => rw [h x (by simp)]
  case makeFunc f xs ys => rw [evs_congr fun x hx => h x (by simp at hx ⊢; exact .inl hx), evs_congr fun x hx => h x (by simp at hx ⊢; exact .inr hx)]
  case slice t x lo hi mx =>
    rw [h x (by simp), evO_congr fun y hy => h y (by simp at hy ⊢; simp [hy]), evO_congr fun y hy => h y (by simp at hy ⊢; simp [hy]), evO_congr fun y hy => h y (by simp at hy ⊢; simp [hy])]
  case fieldAddr t x f => rw [h x (by simp)]
  case field t x f => rw [h x (by simp)]
  case indexAddr t x i => rw [h x (by simp), h i (by simp)]
  case index t x i => rw [h x (by simp), h i (by simp)]
  case extract x i => rw [h x (by simp)]
  case call c => rw [evs_congr fun x hx => h x (by simp [Call.operands] at hx ⊢; exact .inr hx)]

theorem opE_congr (E : Env P) {a b : AAct} {o : Oper} (h : ∀ x ∈ o.op.operands, ev b x = ev a x) : opE E b H o = opE E a H o := by
  unfold opE
  cases ho : o.op <;> simp only [ho, Op.operands] at h ⊢
  case box t x => rw [h x (by simp)]
  case buildSlice t n ps => rw [evParts_congr fun x hx => h x (by simpa using hx)]
  case store t x y => rw [h x (by simp), h y (by simp)]
  case makeMap t r => cases r <;> rfl
  case makeSlice t x y => rw [h x (by simp), h y (by simp)]
  case convert s d x => rw [h x (by simp)]
  case call c => rw [evs_congr fun x hx => h x (by simp [Call.operands] at hx ⊢; exact .inr hx)]

theorem opC_congr {fns : FnT} {a b : AAct} {o : Oper} (h : ∀ x ∈ o.op.operands, ev b x = ev a x) : opC fns b o = opC fns a o := by
  unfold opC
  cases ho : o.op <;> simp only [ho, Op.operands] at h ⊢
  case call c =>
    cases hc : c.callee with
    | value x =>
      have hx : ev b x = ev a x := h x (by simp [Call.operands, hc])
      have hargs : evs b c.args.toList = evs a c.args.toList := evs_congr fun y hy => h y (by simp [Call.operands, hc] at hy ⊢; exact .inr hy)
      simp only [hx, hargs]
    | invoke r m => rfl
    | builtin b => rfl

end Go.Am
