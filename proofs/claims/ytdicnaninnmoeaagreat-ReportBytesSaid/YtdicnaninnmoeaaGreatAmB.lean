/- Part of the proof: an abstract machine of our own over the model; no condition. -/
import Derived.Test.YtdicnaninnmoeaaGreatAmA
import Derived.Laws.Sem
set_option linter.unusedSectionVars false
set_option linter.unusedSimpArgs false
set_option linter.unusedVariables false
set_option linter.unnecessarySimpa false
/- The abstract machine, part B: the heap. -/
namespace Go.Am
open Go

/-- 'ro': cells that were there, and are only read. -/
inductive Blk where
  | cells (cs : List Value) (elem : TypeId)
  | map (es : List (Value × Value))
  | ro (cs : List Value) (elem : TypeId)

def Blk.isRo : Blk → Bool
  | .ro _ _ => true
  | _ => false

/-- The world at the start: all its blocks are kept. -/
class Fr where
  w : World

/-- A map by numbers. -/
inductive Tr (α : Type) where
  | e
  | n (l : Tr α) (v : Option α) (r : Tr α)

def Tr.get {α : Type} : Tr α → Nat → Option α
  | .e, _ => none
  | .n l v r, k =>
    match Nat.beq k 0 with
    | true => v
    | false =>
      match Nat.beq (k % 2) 1 with
      | true => l.get (k / 2)
      | false => r.get (k / 2 - 1)

def Tr.put {α : Type} : Nat → Tr α → Nat → Option α → Tr α
  | 0, t, _, _ => t
  | f + 1, t, k, x =>
    match t with
    | .e =>
      match Nat.beq k 0 with
      | true => .n .e x .e
      | false =>
        match Nat.beq (k % 2) 1 with
        | true => .n (Tr.put f .e (k / 2) x) none .e
        | false => .n .e none (Tr.put f .e (k / 2 - 1) x)
    | .n l v r =>
      match Nat.beq k 0 with
      | true => .n l x r
      | false =>
        match Nat.beq (k % 2) 1 with
        | true => .n (Tr.put f l (k / 2) x) v r
        | false => .n l v (Tr.put f r (k / 2 - 1) x)

theorem Tr.get_put {α : Type} : ∀ (f : Nat) (t : Tr α) (k : Nat) (x : Option α) (j : Nat), k < f → (Tr.put f t k x).get j = if j = k then x else t.get j := by
  intro f
  induction f with
  | zero => intro t k x j h; omega
  | succ f ih =>
    intro t k x j h
    have key : ∀ (l : Tr α) (v : Option α) (r : Tr α), (match Nat.beq k 0 with
        | true => Tr.n l x r
        | false =>
          match Nat.beq (k % 2) 1 with
          | true => .n (Tr.put f l (k / 2) x) v r
          | false => .n l v (Tr.put f r (k / 2 - 1) x)).get j = if j = k then x else (Tr.n l v r).get j := by
      intro l v r
      cases hk0 : Nat.beq k 0 with
      | true =>
        have : k = 0 := Nat.eq_of_beq_eq_true hk0
        subst this
        simp only [Tr.get]
        cases hj0 : Nat.beq j 0 with
        | true =>
          have : j = 0 := Nat.eq_of_beq_eq_true hj0
          subst this
          simp
        | false =>
          have : j ≠ 0 := Nat.ne_of_beq_eq_false hj0
          simp [this]
      | false =>
        have hk : k ≠ 0 := Nat.ne_of_beq_eq_false hk0
        cases hk1 : Nat.beq (k % 2) 1 with
        | true =>
          have hkm : k % 2 = 1 := Nat.eq_of_beq_eq_true hk1
          simp only [Tr.get]
          cases hj0 : Nat.beq j 0 with
          | true =>
            have : j = 0 := Nat.eq_of_beq_eq_true hj0
            subst this
            have hne : ¬ (0 = k) := fun e => hk e.symm
            simp [hne]
          | false =>
            have hj : j ≠ 0 := Nat.ne_of_beq_eq_false hj0
            cases hj1 : Nat.beq (j % 2) 1 with
            | true =>
              have hjm : j % 2 = 1 := Nat.eq_of_beq_eq_true hj1
              simp only
              rw [ih l (k / 2) x (j / 2) (by omega)]
              by_cases e : j = k
              · subst e; simp
              · have : ¬ j / 2 = k / 2 := by omega
                simp [e, this]
            | false =>
              have hjm : j % 2 ≠ 1 := Nat.ne_of_beq_eq_false hj1
              have : ¬ j = k := by intro e; subst e; exact hjm hkm
              simp [this]
        | false =>
          have hkm : k % 2 ≠ 1 := Nat.ne_of_beq_eq_false hk1
          simp only [Tr.get]
          cases hj0 : Nat.beq j 0 with
          | true =>
            have : j = 0 := Nat.eq_of_beq_eq_true hj0
            subst this
            have hne : ¬ (0 = k) := fun e => hk e.symm
            simp [hne]
          | false =>
            have hj : j ≠ 0 := Nat.ne_of_beq_eq_false hj0
            cases hj1 : Nat.beq (j % 2) 1 with
            | true =>
              have hjm : j % 2 = 1 := Nat.eq_of_beq_eq_true hj1
              have : ¬ j = k := by intro e; subst e; exact hkm hjm
              simp [this]
            | false =>
              have hjm : j % 2 ≠ 1 := Nat.ne_of_beq_eq_false hj1
              simp only
              rw [ih r (k / 2 - 1) x (j / 2 - 1) (by omega)]
              by_cases e : j = k
              · subst e; simp
              · have : ¬ j / 2 - 1 = k / 2 - 1 := by omega
                simp [e, this]
    cases t with
    | e =>
      have := key .e none .e
      have e0 : (Tr.n (.e : Tr α) none .e).get j = (Tr.e : Tr α).get j := by
        simp only [Tr.get]
        cases Nat.beq j 0 <;> cases Nat.beq (j % 2) 1 <;> simp
      rw [e0] at this
      simpa only [Tr.put] using this
    | n l v r =>
      have := key l v r
      simpa only [Tr.put] using this

/-- An abstract heap. -/
structure AH where
  next : Nat
  m : Tr Blk

def AH.get (H : AH) (b : Nat) : Option Blk := H.m.get b
def AH.set (H : AH) (b : Nat) (x : Option Blk) : AH := { next := H.next, m := Tr.put (b + 1) H.m b x }
def AH.push (H : AH) (x : Blk) : AH := { next := H.next + 1, m := Tr.put (H.next + 1) H.m H.next (some x) }

@[simp] theorem AH.get_set_same (H : AH) (b : Nat) (x : Option Blk) : (H.set b x).get b = x := by simp [AH.set, AH.get, Tr.get_put]
theorem AH.get_set_ne (H : AH) (b k : Nat) (x : Option Blk) (h : k ≠ b) : (H.set b x).get k = H.get k := by simp [AH.set, AH.get, Tr.get_put, h]
@[simp] theorem AH.get_push_same (H : AH) (x : Blk) : (H.push x).get H.next = some x := by simp [AH.push, AH.get, Tr.get_put]
theorem AH.get_push_ne (H : AH) (k : Nat) (x : Blk) (h : k ≠ H.next) : (H.push x).get k = H.get k := by simp [AH.push, AH.get, Tr.get_put, h]
@[simp] theorem AH.next_set (H : AH) (b : Nat) (x : Option Blk) : (H.set b x).next = H.next := rfl
@[simp] theorem AH.next_push (H : AH) (x : Blk) : (H.push x).next = H.next + 1 := rfl

def splice (cs : List Value) (o : Nat) (vs : List Value) : List Value := cs.take o ++ vs ++ cs.drop (o + vs.length)

theorem splice_length {cs : List Value} {o : Nat} {vs : List Value} (h : o + vs.length ≤ cs.length) : (splice cs o vs).length = cs.length := by
  simp [splice]; omega

def AH.load (H : AH) (b o n : Nat) : Option (List Value) :=
  match H.get b with
  | some (.cells cs _) => if o + n ≤ cs.length then some ((cs.drop o).take n) else none
  | some (.ro cs _) => if o + n ≤ cs.length then some ((cs.drop o).take n) else none
  | _ => none

def AH.store (H : AH) (b o : Nat) (vs : List Value) : Option AH :=
  match H.get b with
  | some (.cells cs e) => if o + vs.length ≤ cs.length then some (H.set b (some (.cells (splice cs o vs) e))) else none
  | _ => none

inductive MR (σ : Sig) : List (Value × Value) → List MapEntry → Prop
  | nil : MR σ [] []
  | cons {k v : Value} {e : MapEntry} {es es'} (hk : VR σ k e.key) (hv : VR σ v e.val) (h : MR σ es es') : MR σ ((k, v) :: es) (e :: es')

theorem MR.mono {σ σ' : Sig} (hle : Le σ σ') : ∀ {l l'}, MR σ l l' → MR σ' l l'
  | _, _, .nil => .nil
  | _, _, .cons hk hv h => .cons (hk.mono hle) (hv.mono hle) (h.mono hle)

/-- How a block lies. -/
def BR (P : Program) (σ : Sig) (i : Img) : Blk → Option Obj → Prop
  | .cells cs e, some (.cells c e' fr) => e' = e ∧ c.size = i.size ∧ i.esz = P.cellsOf e ∧ i.base + cs.length ≤ i.size ∧
      VRs σ cs ((c.toList.drop i.base).take cs.length) ∧ (fr.1 = fr.2 ∨ i.size ≤ fr.1) ∧ cs.all (·.oneCell') = true
  | .map es, some (.map es' _) => MR σ es es'.toList
  | .ro cs e, some (.cells c _ _) => c.size = i.size ∧ i.esz = P.cellsOf e ∧ i.base + cs.length ≤ i.size ∧
      VRs σ cs ((c.toList.drop i.base).take cs.length) ∧ cs.all (·.oneCell') = true
  | _, _ => False

theorem BR.mono {P : Program} {σ σ' : Sig} {i : Img} (hle : Le σ σ') : ∀ {bl : Blk} {o : Option Obj}, BR P σ i bl o → BR P σ' i bl o := by
  intro bl o h
  cases bl with
  | cells cs e =>
    cases o with
    | none => exact h.elim
    | some o =>
      cases o <;> try exact h.elim
      obtain ⟨h1, h2, h3, h4, h5, h6⟩ := h
      exact ⟨h1, h2, h3, h4, h5.mono hle, h6⟩
  | map es =>
    cases o with
    | none => exact h.elim
    | some o =>
      cases o <;> try exact h.elim
      exact MR.mono hle h
  | ro cs e =>
    cases o with
    | none => exact h.elim
    | some o =>
      cases o <;> try exact h.elim
      obtain ⟨h1, h2, h3, h4, h5⟩ := h
      exact ⟨h1, h2, h3, h4.mono hle, h5⟩

variable [F : Fr]

structure HR (P : Program) (σ : Sig) (H : AH) (w : World) : Prop where
  live : ∀ b bl, H.get b = some bl → ∃ i, σ b = some i ∧ BR P σ i bl w.heap[i.blk]?
  inj : ∀ b b' bl bl' i i', H.get b = some bl → H.get b' = some bl' → bl.isRo = false → σ b = some i → σ b' = some i' → i.blk = i'.blk → b = b'
  fresh : ∀ b, H.next ≤ b → σ b = none
  kept : ∀ k, k < F.w.heap.size → w.heap[k]? = F.w.heap[k]?
  apart : ∀ b bl i, H.get b = some bl → bl.isRo = false → σ b = some i → F.w.heap.size ≤ i.blk
  same : w.os = F.w.os ∧ w.output = F.w.output ∧ w.tape = F.w.tape

theorem HR.congr {P : Program} {σ : Sig} {H : AH} {w w' : World} (h : HR P σ H w) (e : w'.heap = w.heap) (eo : w'.os = w.os ∧ w'.output = w.output ∧ w'.tape = w.tape) : HR P σ H w' :=
  ⟨fun b bl hb => by rw [e]; exact h.live b bl hb, h.inj, h.fresh, fun k hk => by rw [e]; exact h.kept k hk, h.apart, by rw [eo.1, eo.2.1, eo.2.2]; exact h.same⟩

theorem HR.size {P : Program} {σ : Sig} {H : AH} {w : World} (h : HR P σ H w) : F.w.heap.size ≤ w.heap.size := by
  rcases Nat.lt_or_ge w.heap.size F.w.heap.size with hlt | hge
  · have := h.kept w.heap.size hlt
    rw [Array.getElem?_eq_none (Nat.le_refl _), Array.getElem?_eq_getElem hlt] at this
    cases this
  · exact hge

theorem HR.ext {P : Program} {σ : Sig} {H H' : AH} {w : World} (h : HR P σ H w) (e : ∀ b, H'.get b = H.get b) (en : H'.next = H.next) : HR P σ H' w :=
  ⟨fun b bl hb => h.live b bl (by rw [← e]; exact hb), fun b b' bl bl' i i' hb hb' => h.inj b b' bl bl' i i' (by rw [← e]; exact hb) (by rw [← e]; exact hb'), fun b hb => h.fresh b (by rw [← en]; exact hb), h.kept,
    fun b bl i hb => h.apart b bl i (by rw [← e]; exact hb), h.same⟩

theorem HR.lt {P : Program} {σ : Sig} {H : AH} {w : World} (h : HR P σ H w) {b : Nat} {bl : Blk} (hb : H.get b = some bl) : b < H.next := by
  obtain ⟨i, hi, _⟩ := h.live b bl hb
  rcases Nat.lt_or_ge b H.next with hlt | hge
  · exact hlt
  · rw [h.fresh b hge] at hi; cases hi

theorem HR.blk_lt {P : Program} {σ : Sig} {H : AH} {w : World} (h : HR P σ H w) {b : Nat} {bl : Blk} {i : Img} (hb : H.get b = some bl) (hi : σ b = some i) :
    i.blk < w.heap.size := by
  obtain ⟨i', hi', hB⟩ := h.live b bl hb
  rw [hi] at hi'; cases hi'
  rcases Nat.lt_or_ge i.blk w.heap.size with hlt | hge
  · exact hlt
  · rw [Array.getElem?_eq_none hge] at hB
    cases bl <;> exact hB.elim

/-- What is at a live block. -/
theorem HR.at {P : Program} {σ : Sig} {H : AH} {w : World} (h : HR P σ H w) {b : Nat} {bl : Blk} {i : Img} (hb : H.get b = some bl) (hi : σ b = some i) :
    BR P σ i bl w.heap[i.blk]? := by
  obtain ⟨i', hi', hB⟩ := h.live b bl hb
  rw [hi] at hi'; cases hi'; exact hB

def upd (w : World) (r : Nat) (o : Obj) : World := { w with heap := w.heap.setIfInBounds r o }

theorem HR.upd {P : Program} {σ : Sig} {H : AH} {w : World} (h : HR P σ H w) {b : Nat} {bl bl' : Blk} {i : Img} {o : Obj}
    (hb : H.get b = some bl) (hro : bl.isRo = false) (hi : σ b = some i) (hB : BR P σ i bl' (some o)) : HR P σ (H.set b (some bl')) (upd w i.blk o) := by
  have hlt := h.blk_lt hb hi
  have hap := h.apart b bl i hb hro hi
  refine ⟨fun c cl hc => ?_, fun c c' cl cl' j j' hc hc' hro' hj hj' he => ?_, fun c hc => h.fresh c hc, fun k hk => ?_, fun c cl j hc hr hj => ?_, h.same⟩
  · by_cases hcb : c = b
    · subst hcb
      simp at hc; subst hc
      exact ⟨i, hi, by simpa [Am.upd, Array.getElem?_setIfInBounds, hlt] using hB⟩
    · rw [AH.get_set_ne _ _ _ _ hcb] at hc
      obtain ⟨j, hj, hBj⟩ := h.live c cl hc
      refine ⟨j, hj, ?_⟩
      have hne : i.blk ≠ j.blk := fun e => hcb (h.inj b c bl cl i j hb hc hro hi hj e).symm
      simpa [Am.upd, Array.getElem?_setIfInBounds, hne] using hBj
  · have key : ∀ c cl, (H.set b (some bl')).get c = some cl → ∃ x, H.get c = some x ∧ (cl.isRo = false → x.isRo = false) := by
      intro c cl hc
      by_cases hcb : c = b
      · subst hcb; exact ⟨bl, hb, fun _ => hro⟩
      · rw [AH.get_set_ne _ _ _ _ hcb] at hc; exact ⟨cl, hc, id⟩
    obtain ⟨x, hx, hxr⟩ := key c cl hc
    obtain ⟨y, hy, _⟩ := key c' cl' hc'
    exact h.inj c c' x y j j' hx hy (hxr hro') hj hj' he
  · have hne : i.blk ≠ k := by omega
    simpa [Am.upd, Array.getElem?_setIfInBounds, hne] using h.kept k hk
  · by_cases hcb : c = b
    · subst hcb
      rw [hi] at hj; cases hj
      exact hap
    · rw [AH.get_set_ne _ _ _ _ hcb] at hc
      exact h.apart c cl j hc hr hj

/-- A block is forgotten. -/
theorem HR.del {P : Program} {σ : Sig} {H : AH} {w : World} (h : HR P σ H w) (b : Nat) : HR P σ (H.set b none) w := by
  have key : ∀ c cl, (H.set b none).get c = some cl → H.get c = some cl := by
    intro c cl hc
    by_cases hcb : c = b
    · subst hcb; simp at hc
    · rwa [AH.get_set_ne _ _ _ _ hcb] at hc
  exact ⟨fun c cl hc => h.live c cl (key c cl hc), fun c c' cl cl' j j' hc hc' => h.inj c c' cl cl' j j' (key c cl hc) (key c' cl' hc'), h.fresh, h.kept, fun c cl i hc => h.apart c cl i (key c cl hc), h.same⟩

def Sig.ext (σ : Sig) (b : Nat) (i : Img) : Sig := fun k => if k = b then some i else σ k

theorem Sig.le_ext {σ : Sig} {b : Nat} {i : Img} (h : σ b = none) : Le σ (σ.ext b i) := by
  intro k j hk
  by_cases e : k = b
  · subst e; rw [h] at hk; cases hk
  · simp [Sig.ext, e, hk]

/-- A fresh abstract block is laid upon a real block that no live one has. -/
theorem HR.lay {P : Program} {σ : Sig} {H : AH} {w w' : World} (h : HR P σ H w) (i : Img) (bl : Blk)
    (hfree : ∀ c cl j, H.get c = some cl → σ c = some j → j.blk ≠ i.blk ∧ w'.heap[j.blk]? = w.heap[j.blk]?)
    (hB : BR P (σ.ext H.next i) i bl w'.heap[i.blk]?) (hn : F.w.heap.size ≤ i.blk) (hk : ∀ k, k < F.w.heap.size → w'.heap[k]? = w.heap[k]?) (ho : w'.os = w.os ∧ w'.output = w.output ∧ w'.tape = w.tape) :
    HR P (σ.ext H.next i) (H.push bl) w' ∧ Le σ (σ.ext H.next i) := by
  have hle : Le σ (σ.ext H.next i) := Sig.le_ext (h.fresh _ (Nat.le_refl _))
  have hold : ∀ {c cl}, c ≠ H.next → (H.push bl).get c = some cl → H.get c = some cl := by
    intro c cl hc e; rwa [AH.get_push_ne _ _ _ hc] at e
  have hσ : ∀ {c j}, c ≠ H.next → (σ.ext H.next i) c = some j → σ c = some j := by
    intro c j hc e; simpa [Sig.ext, hc] using e
  refine ⟨⟨fun c cl hc => ?_, fun c c' cl cl' j j' hc hc' hro' hj hj' he => ?_, fun c hc => ?_, fun k hk' => by rw [hk k hk']; exact h.kept k hk', fun c cl j hc hr hj => ?_, by rw [ho.1, ho.2.1, ho.2.2]; exact h.same⟩, hle⟩
  · by_cases e : c = H.next
    · subst e
      simp at hc; subst hc
      exact ⟨i, by simp [Sig.ext], hB⟩
    · obtain ⟨j, hj, hBj⟩ := h.live c cl (hold e hc)
      refine ⟨j, hle _ _ hj, ?_⟩
      rw [(hfree c cl j (hold e hc) hj).2]
      exact hBj.mono hle
  · by_cases e : c = H.next
    · by_cases e' : c' = H.next
      · rw [e, e']
      · subst e
        simp [Sig.ext] at hj; subst hj
        exact absurd he.symm (hfree c' cl' j' (hold e' hc') (hσ e' hj')).1
    · by_cases e' : c' = H.next
      · subst e'
        simp [Sig.ext] at hj'; subst hj'
        exact absurd he (hfree c cl j (hold e hc) (hσ e hj)).1
      · exact h.inj c c' cl cl' j j' (hold e hc) (hold e' hc') hro' (hσ e hj) (hσ e' hj') he
  · simp at hc
    have : c ≠ H.next := by omega
    simp [Sig.ext, this]
    exact h.fresh c (by omega)
  · by_cases e : c = H.next
    · subst e
      simp [Sig.ext] at hj; subst hj
      exact hn
    · exact h.apart c cl j (hold e hc) hr (hσ e hj)

def grow (w : World) (o : Obj) : World := { w with heap := w.heap.push o }

theorem HR.new {P : Program} {σ : Sig} {H : AH} {w : World} (h : HR P σ H w) (bl : Blk) (o : Obj) (size esz : Nat)
    (hB : BR P σ ⟨w.heap.size, 0, size, esz⟩ bl (some o)) :
    HR P (σ.ext H.next ⟨w.heap.size, 0, size, esz⟩) (H.push bl) (grow w o) ∧ Le σ (σ.ext H.next ⟨w.heap.size, 0, size, esz⟩) := by
  have hle : Le σ (σ.ext H.next ⟨w.heap.size, 0, size, esz⟩) := Sig.le_ext (h.fresh _ (Nat.le_refl _))
  have hsz := h.size
  refine h.lay _ bl (fun c cl j hc hj => ?_) ?_ hsz (fun k hk => ?_) ⟨rfl, rfl, rfl⟩
  · have hlt := h.blk_lt hc hj
    refine ⟨Nat.ne_of_lt hlt, ?_⟩
    simp [grow, Array.getElem?_push, Nat.ne_of_lt hlt]
  · simpa [grow, Array.getElem?_push] using hB.mono hle
  · have hne : k ≠ w.heap.size := by omega
    simp [grow, Array.getElem?_push, hne]

end Go.Am
