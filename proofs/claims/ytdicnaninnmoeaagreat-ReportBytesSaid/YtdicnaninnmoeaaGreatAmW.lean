/- Part of the proof: an abstract machine of our own over the model; no condition. -/
import Derived.Test.YtdicnaninnmoeaaGreatAmP
set_option linter.unusedSectionVars false
set_option linter.unusedSimpArgs false
set_option linter.unusedVariables false
set_option linter.unnecessarySimpa false
/- The abstract machine, part W: a walk over code with values that are not known; calls and loops are left open. -/
namespace Go.Am
open Go
variable [F : Fr]

variable {P : Program}

section
variable (E : Env P) (fns : FnT) (pur : PureF) (pls : Plans)

abbrev AQ := Exit → AAct → AH → Prop

def WL (ops : Array Oper) (Q : AQ) : List Oper → AAct → AH → Prop
  | [], a, H => Q .normal a H
  | o :: rest, a, H =>
    dstOk a o.dst = true ∧
    match want ops o a with
    | none => False
    | some false => WL ops Q rest (a.put o.dst undef) H
    | some true =>
      match o.op with
      | .panic x =>
        match ev a x with
        | some (.iface t v) => Q (.panic [{ v := .iface t v, recovered := false }]) a H
        | _ => False
      | .defer c =>
        match deferOf fns a c with
        | some d => WL ops Q rest (({ a with defers := d :: a.defers } : AAct).put o.dst undef) H
        | none => False
      | _ =>
        match opR E a H o with
        | some v => WL ops Q rest (a.put o.dst v) H
        | none =>
          match opE E a H o with
          | some (v, H') => WL ops Q rest (a.put o.dst v) H'
          | none =>
            match opC fns a o with
            | some (g, args) =>
              match pur g args with
              | some v => WL ops Q rest (a.put o.dst v) H
              | none => ACalls P g args H (ContQ Q a fun v H' => WL ops Q rest (a.put o.dst v) H')
            | none => False

def evNewA (ops : Array Oper) (H : AH) : List Nat → AAct → Option AAct
  | [], a => some a
  | i :: is, a =>
    match ops[i]? with
    | none => none
    | some o =>
      match want ops o a with
      | some false => evNewA ops H is (a.put o.dst undef)
      | some true =>
        match opRP E fns pur a H o with
        | some v => evNewA ops H is (a.put o.dst v)
        | none => none
      | none => none

def WChk (ops : Array Oper) (a : AAct) (H : AH) (i : Nat) : Prop :=
  match ops[i]? with
  | none => False
  | some o => dstOk a o.dst = true ∧
    match want ops o a with
    | some true =>
      match opRP E fns pur a H o with
      | some v => match o.dst with
        | some d => a.tmps d = some v
        | none => True
      | none => False
    | some false => match o.dst with
      | some d => a.tmps d = some undef
      | none => True
    | none => False

def WChks (ops : Array Oper) (a : AAct) (H : AH) : List Nat → Prop
  | [] => True
  | i :: is => WChk E fns pur ops a H i ∧ WChks ops a H is

def WP (ops : Array Oper) (Q : AQ) : List Stage → AAct → AH → Prop
  | [], _, _ => False
  | s :: rest, a, H =>
    match evNewA E fns pur ops H s.new a with
    | none => False
    | some a1 => WChks E fns pur ops a1 H (s.new ++ s.again) ∧
      match s.eff with
      | none => Q .normal a1 H
      | some i =>
        match ops[i]? with
        | none => False
        | some o => dstOk a1 o.dst = true ∧
          match want ops o a1 with
          | none => False
          | some false => WP ops Q rest (a1.put o.dst undef) H
          | some true =>
            match opR E a1 H o with
            | some v => WP ops Q rest (a1.put o.dst v) H
            | none =>
              match opE E a1 H o with
              | some (v, H') => WP ops Q rest (a1.put o.dst v) H'
              | none =>
                match opC fns a1 o with
                | some (g, args) =>
                  match pur g args with
                  | some v => WP ops Q rest (a1.put o.dst v) H
                  | none => ACalls P g args H (ContQ Q a1.forget fun v H' => WP ops Q rest (a1.put o.dst v) H')
                | none => False

def W : Code → AQ → AAct → AH → Prop
  | .skip, Q, a, H | .label _, Q, a, H => Q .normal a H
  | .exit id, Q, a, H => Q (.exit id) a H
  | .ret, Q, a, H => Q .ret a H
  | .seq x y, Q, a, H => W x (AThen (W y Q) Q) a H
  | .cond c x y, Q, a, H =>
    match ev a c with
    | some (.bool t) => if t = true then W x Q a H else W y Q a H
    | _ => False
  | .block id b, Q, a, H => W b (ABlock id Q) a H
  | .scope b, Q, a, H => W b (ANoGoto Q) a H
  | .loop b, Q, a, H => ∃ (I : Nat → AAct → AH → Prop) (n : Nat), I n a H ∧ ∀ n a H, I n a H → W b (AThen (fun a H => ∃ m, m < n ∧ I m a H) Q) a H
  | .region _ ops false, Q, a, H => WL E fns pur ops Q ops.toList a H
  | .region id ops true, Q, a, H =>
    match planFor pls id with
    | some pl => WP E fns pur ops Q pl a H
    | none => False
  | _, _, _, _ => False

end

variable {E : Env P} {fns : FnT} {pur : PureF} {pls : Plans}

theorem WL_sound (hfns : FnsOk P fns) (hp : PureOk P pur) {ops : Array Oper} {Q : AQ} : ∀ (rest : List Oper) (k m : Nat) (a : AAct) (H : AH), ops.toList.drop k = rest → m = rest.length →
    WL E fns pur ops Q rest a H → AOps P ops Q (List.range' k m) a H := by
  intro rest
  induction rest with
  | nil =>
    intro k m a H hk hm h
    simp at hm
    subst hm
    exact AOps_nil h
  | cons o rest ih =>
    intro k m a H hk hm h
    simp at hm
    subst hm
    have ho : ops[k]? = some o := by
      have := congrArg (fun l => l[0]?) hk
      simpa using this
    have hk' : ops.toList.drop (k + 1) = rest := by
      have := congrArg List.tail hk
      simpa using this
    rw [List.range'_succ]
    have ih := fun a H => ih (k + 1) rest.length a H hk' rfl
    obtain ⟨hd, h⟩ := h
    split at h <;> try (exact h.elim)
    · rename_i hw
      exact AOps_skip ho hw hd (ih _ _ h)
    · rename_i hw
      split at h
      · rename_i x hp
        split at h <;> try (exact h.elim)
        rename_i t v hx
        exact AOps_panic ho hw hp hx h
      · rename_i c hp
        split at h <;> try (exact h.elim)
        rename_i d hx
        exact AOps_defer ho hw hd hp hx (ih _ _ h)
      · split at h
        · rename_i v hv
          refine AOps_op ho hw hd (v := v) (H' := H) (fun σ w a' hr ha => ?_) (ih _ _ h)
          obtain ⟨rv, hrun, hvv⟩ := opR_sound E hr ha hv
          exact ⟨σ, rv, w, Le.refl _, hr, hvv, .inl hrun⟩
        · split at h
          · rename_i v H2 hv
            exact AOps_op ho hw hd (v := v) (H' := H2) (fun σ w a' hr ha => opE_sound E hr ha hv) (ih _ _ h)
          · split at h <;> try (exact h.elim)
            rename_i g args hv
            split at h
            · rename_i v hpv
              exact AOps_call ho hw hd (opC_sound hfns hv) (hp _ _ _ hpv H _ (ih _ _ h))
            refine AOps_call ho hw hd (opC_sound hfns hv) (h.mono fun e H2 he => ?_)
            cases e with
            | returned v => exact ih _ _ he
            | panicked c => exact he
            | outgrown => exact he

theorem evNewA_Upd {ops : Array Oper} {H : AH} : ∀ (is : List Nat) (a a1 : AAct), evNewA E fns pur ops H is a = some a1 → Upd ops is a a1 := by
  intro is
  induction is with
  | nil => intro a a1 h; simp only [evNewA, Option.some.injEq] at h; subst h; exact ⟨rfl, rfl, fun t _ => rfl⟩
  | cons i is ih =>
    intro a a1 h
    unfold evNewA at h
    split at h <;> try (cases h; done)
    rename_i o ho
    have key : ∀ v, evNewA E fns pur ops H is (a.put o.dst v) = some a1 → Upd ops (i :: is) a a1 := by
      intro v h
      obtain ⟨h1, h2, h3⟩ := ih _ _ h
      refine ⟨?_, ?_, fun t ht => ?_⟩
      · rw [h1]; cases hd : o.dst <;> rfl
      · rw [h2]; cases hd : o.dst <;> rfl
      · rw [h3 t fun j hj => ht j (by simp [hj])]
        have := ht i (by simp)
        cases hd : o.dst with
        | none => rfl
        | some d =>
          simp only [dstAt, ho, Option.bind_some, hd] at this
          have hne : ¬ t = d := fun e => this (by rw [e])
          simp [AAct.put, hne]
    split at h <;> try (cases h; done)
    · exact key _ h
    · split at h <;> try (cases h; done)
      exact key _ h

theorem WChk_Chk (hp : PureOk P pur) {ops : Array Oper} {a : AAct} {H : AH} {i : Nat} (h : WChk E fns pur ops a H i) : Chk E fns ops a H i := by
  unfold WChk at h
  unfold Chk
  split at h <;> try (exact h.elim)
  rename_i o ho
  simp only [ho]
  refine ⟨h.1, ?_⟩
  have h := h.2
  split at h <;> try (exact h.elim)
  · rename_i hw
    rw [hw]
    split at h <;> try (exact h.elim)
    rename_i v hv
    refine ⟨v, opRP_Rd hp hv, fun d hd => ?_⟩
    rw [hd] at h
    exact h
  · rename_i hw
    rw [hw]
    intro d hd
    rw [hd] at h
    exact h

theorem WChks_Chk (hp : PureOk P pur) {ops : Array Oper} {a : AAct} {H : AH} : ∀ (l : List Nat), WChks E fns pur ops a H l → ∀ i ∈ l, Chk E fns ops a H i
  | [], _, i, hi => by cases hi
  | j :: l, h, i, hi => by
    rw [List.mem_cons] at hi
    rcases hi with rfl | hi
    · exact WChk_Chk hp h.1
    · exact WChks_Chk hp l h.2 i hi

theorem WP_sound (hp : PureOk P pur) {ops : Array Oper} {Q : AQ} : ∀ (pl : List Stage) (a : AAct) (H : AH), WP E fns pur ops Q pl a H → RunPlan E fns ops Q pl a H := by
  intro pl
  induction pl with
  | nil => intro a H h; exact h
  | cons s rest ih =>
    intro a H h
    unfold WP at h
    split at h <;> try (exact h.elim)
    rename_i a1 ha1
    obtain ⟨hc, h⟩ := h
    refine ⟨a1, evNewA_Upd _ _ _ ha1, WChks_Chk hp _ hc, ?_⟩
    split at h
    · rename_i hs
      rw [hs]
      exact h
    · rename_i i hs
      rw [hs]
      split at h <;> try (exact h.elim)
      rename_i o ho
      simp only [AEff, ho]
      obtain ⟨hd, h⟩ := h
      refine ⟨hd, ?_⟩
      split at h <;> try (exact h.elim)
      · rename_i hw
        rw [hw]
        exact ih _ _ h
      · rename_i hw
        rw [hw]
        simp only
        split at h
        · rename_i v hv
          exact .inl ⟨v, hv, ih _ _ h⟩
        · split at h
          · rename_i v H2 hv
            exact .inr (.inl ⟨v, H2, hv, ih _ _ h⟩)
          · split at h <;> try (exact h.elim)
            rename_i g args hv
            split at h
            · rename_i v hpv
              exact .inr (.inr ⟨g, args, hv, hp _ _ _ hpv H _ (ih _ _ h)⟩)
            refine .inr (.inr ⟨g, args, hv, h.mono fun e H2 he => ?_⟩)
            cases e with
            | returned v => exact ih _ _ he
            | panicked c => exact he
            | outgrown => exact he

theorem W_sound (hfns : FnsOk P fns) (hm : P.follows .mixedOrders = true) (hp : PureOk P pur) : ∀ (c : Code) (Q : AQ) (a : AAct) (H : AH), codeOk pls c = true →
    W E fns pur pls c Q a H → AWP P c Q a H := by
  intro c
  induction c with
  | skip => intro Q a H _ h; exact AWP_skip h
  | label l => intro Q a H _ h; exact AWP_label h
  | exit id => intro Q a H _ h; exact AWP_exit h
  | ret => intro Q a H _ h; exact AWP_ret h
  | seq x y ihx ihy =>
    intro Q a H hok h
    simp only [codeOk, Bool.and_eq_true] at hok
    refine AWP_seq ((ihx _ _ _ hok.1 h).mono fun e a H he => ?_)
    cases e with
    | normal => exact ihy _ _ _ hok.2 he
    | _ => exact he
  | cond c x y ihx ihy =>
    intro Q a H hok h
    simp only [codeOk, Bool.and_eq_true] at hok
    simp only [W] at h
    split at h <;> try (exact h.elim)
    rename_i t ht
    refine AWP_cond ht ?_
    cases t with
    | true => exact ihx _ _ _ hok.1 h
    | false => exact ihy _ _ _ hok.2 h
  | block id b ih => intro Q a H hok h; exact AWP_block (ih _ _ _ hok h)
  | scope b ih => intro Q a H hok h; exact AWP_scope (ih _ _ _ hok h)
  | loop b ih =>
    intro Q a H hok h
    obtain ⟨I, n, h0, h1⟩ := h
    exact AWP_loop I n h0 fun n a H hI => ih _ _ _ hok (h1 n a H hI)
  | region id ops draw =>
    intro Q a H hok h
    cases draw with
    | false =>
      refine AWP_region ?_
      rw [List.range_eq_range']
      exact WL_sound hfns hp _ _ _ _ _ rfl (by simp) h
    | true =>
      simp only [W] at h
      simp only [codeOk] at hok
      split at h <;> try (exact h.elim)
      rename_i pl hpl
      rw [hpl] at hok
      exact AWP_draw E hfns hm hok (WP_sound hp _ _ _ h)
  | rangeFunc => intro Q a H _ h; exact h.elim
  | goto => intro Q a H _ h; exact h.elim
  | refuse => intro Q a H _ h; exact h.elim


/-! monotone -/

theorem ContQ_mono {Q Q' : AQ} (hq : ∀ e a H, Q e a H → Q' e a H) {a : AAct} {K K' : Value → AH → Prop} (hk : ∀ v H, K v H → K' v H) {e : Ending} {H : AH} (h : ContQ Q a K e H) : ContQ Q' a K' e H := by
  cases e with
  | returned v => exact hk _ _ h
  | panicked c => exact hq _ _ _ h
  | outgrown => exact h

theorem WL_mono {ops ops' : Array Oper} {Q Q' : AQ} (hq : ∀ e a H, Q e a H → Q' e a H) (f : Oper → Oper) (hf : ∀ o, (f o).dst = o.dst ∧ (f o).op = o.op ∧ (f o).guard = o.guard)
    (hops : ∀ j : Nat, (ops[j]?).bind (·.dst) = (ops'[j]?).bind (·.dst)) : ∀ (l : List Oper) (a : AAct) (H : AH), WL E fns pur ops Q (l.map f) a H → WL E fns pur ops' Q' l a H := by
  have hw : ∀ o a, want ops (f o) a = want ops' o a := by
    intro o a
    unfold want
    rw [(hf o).2.2]
    split
    · rfl
    · rw [hops]
  have hR : ∀ o a H, opR E a H (f o) = opR E a H o := by intro o a H; unfold opR; rw [(hf o).2.1]
  have hE : ∀ o a H, opE E a H (f o) = opE E a H o := by intro o a H; unfold opE; rw [(hf o).2.1]
  have hC : ∀ o a, opC fns a (f o) = opC fns a o := by intro o a; unfold opC; rw [(hf o).2.1]
  intro l
  induction l with
  | nil => intro a H h; exact hq _ _ _ h
  | cons o l ih =>
    intro a H h
    simp only [List.map_cons, WL, (hf o).1, (hf o).2.1, hw, hR, hE, hC] at h ⊢
    refine ⟨h.1, ?_⟩
    have h := h.2
    split at h <;> try (exact h.elim)
    · exact ih _ _ h
    · split at h
      · split at h <;> try (exact h.elim)
        exact hq _ _ _ h
      · split at h <;> try (exact h.elim)
        exact ih _ _ h
      · split at h
        · exact ih _ _ h
        · split at h
          · exact ih _ _ h
          · split at h <;> try (exact h.elim)
            split at h
            · exact ih _ _ h
            · exact h.mono fun e H he => ContQ_mono hq (fun v H hv => ih _ _ hv) he

/-- What the walk doesn't look at is left out. -/
def stripO (o : Oper) : Oper := { dst := o.dst, op := o.op, type := 0, pos := "", after := #[], guard := o.guard }

def strip : Code → Code
  | .region id ops draw => .region id (ops.map stripO) draw
  | .seq a b => .seq (strip a) (strip b)
  | .cond c a b => .cond c (strip a) (strip b)
  | .block id a => .block id (strip a)
  | .loop a => .loop (strip a)
  | .scope a => .scope (strip a)
  | c => c

theorem strip_get (ops : Array Oper) (i : Nat) : (ops.map stripO)[i]? = (ops[i]?).map stripO := by simp

theorem strip_want (ops : Array Oper) (o : Oper) (a : AAct) : want (ops.map stripO) (stripO o) a = want ops o a := by
  unfold want
  have : (stripO o).guard = o.guard := rfl
  rw [this]
  split
  · rfl
  · rename_i j b _
    have : ((ops.map stripO)[j]?).bind (·.dst) = (ops[j]?).bind (·.dst) := by
      rw [strip_get]
      cases ops[j]? <;> rfl
    rw [this]

theorem strip_opR (a : AAct) (H : AH) (o : Oper) : opR E a H (stripO o) = opR E a H o := rfl
theorem strip_opE (a : AAct) (H : AH) (o : Oper) : opE E a H (stripO o) = opE E a H o := rfl
theorem strip_opC (a : AAct) (o : Oper) : opC fns a (stripO o) = opC fns a o := rfl
theorem strip_opRP (a : AAct) (H : AH) (o : Oper) : opRP E fns pur a H (stripO o) = opRP E fns pur a H o := rfl

theorem strip_evNewA (ops : Array Oper) (H : AH) : ∀ (l : List Nat) (a : AAct), evNewA E fns pur (ops.map stripO) H l a = evNewA E fns pur ops H l a := by
  intro l
  induction l with
  | nil => intro a; rfl
  | cons i l ih =>
    intro a
    simp only [evNewA, strip_get]
    cases ops[i]? with
    | none => rfl
    | some o =>
      simp only [Option.map_some, strip_want, strip_opRP]
      have : (stripO o).dst = o.dst := rfl
      simp only [this, ih]

theorem strip_WChk (ops : Array Oper) (a : AAct) (H : AH) (i : Nat) : WChk E fns pur (ops.map stripO) a H i = WChk E fns pur ops a H i := by
  simp only [WChk, strip_get]
  cases ops[i]? with
  | none => rfl
  | some o =>
    simp only [Option.map_some, strip_want, strip_opRP]
    rfl

theorem strip_WChks (ops : Array Oper) (a : AAct) (H : AH) : ∀ l, WChks E fns pur (ops.map stripO) a H l = WChks E fns pur ops a H l := by
  intro l
  induction l with
  | nil => rfl
  | cons i l ih => simp only [WChks, strip_WChk, ih]

theorem WP_mono {ops : Array Oper} {Q Q' : AQ} (hq : ∀ e a H, Q e a H → Q' e a H) : ∀ (pl : List Stage) (a : AAct) (H : AH),
    WP E fns pur (ops.map stripO) Q pl a H → WP E fns pur ops Q' pl a H := by
  intro pl
  induction pl with
  | nil => intro a H h; exact h
  | cons s rest ih =>
    intro a H h
    unfold WP at h ⊢
    simp only [strip_evNewA, strip_WChks, strip_get] at h
    split at h <;> try (exact h.elim)
    rename_i a1 ha1
    refine ⟨h.1, ?_⟩
    have h := h.2
    split at h
    · exact hq _ _ _ h
    · rename_i i hs
      cases ho : ops[i]? with
      | none => rw [ho] at h; exact h.elim
      | some o =>
        rw [ho] at h
        simp only [Option.map_some, strip_want, strip_opR, strip_opE, strip_opC] at h ⊢
        have : (stripO o).dst = o.dst := rfl
        simp only [this] at h
        refine ⟨h.1, ?_⟩
        have h := h.2
        split at h <;> try (exact h.elim)
        · exact ih _ _ h
        · split at h
          · exact ih _ _ h
          · split at h
            · exact ih _ _ h
            · split at h <;> try (exact h.elim)
              split at h
              · exact ih _ _ h
              · exact h.mono fun e H he => ContQ_mono hq (fun v H hv => ih _ _ hv) he

theorem W_strip : ∀ (c : Code) (Q Q' : AQ) (a : AAct) (H : AH), (∀ e a H, Q e a H → Q' e a H) → W E fns pur pls (strip c) Q a H → W E fns pur pls c Q' a H := by
  intro c
  induction c with
  | skip => intro Q Q' a H hq h; exact hq _ _ _ h
  | label l => intro Q Q' a H hq h; exact hq _ _ _ h
  | exit id => intro Q Q' a H hq h; exact hq _ _ _ h
  | ret => intro Q Q' a H hq h; exact hq _ _ _ h
  | seq x y ihx ihy =>
    intro Q Q' a H hq h
    refine ihx _ _ _ _ ?_ h
    intro e a H he
    cases e with
    | normal => exact ihy _ _ _ _ hq he
    | _ => exact hq _ _ _ he
  | cond c x y ihx ihy =>
    intro Q Q' a H hq h
    simp only [strip, W] at h ⊢
    split at h <;> try (exact h.elim)
    split at h
    · rename_i ht; rw [if_pos ht]; exact ihx _ _ _ _ hq h
    · rename_i ht; rw [if_neg ht]; exact ihy _ _ _ _ hq h
  | block id b ih =>
    intro Q Q' a H hq h
    refine ih _ _ _ _ ?_ h
    intro e a H he
    cases e with
    | exit id' =>
      simp only [ABlock] at he ⊢
      split at he
      · rename_i hid; rw [if_pos hid]; exact hq _ _ _ he
      · rename_i hid; rw [if_neg hid]; exact hq _ _ _ he
    | _ => exact hq _ _ _ he
  | scope b ih =>
    intro Q Q' a H hq h
    refine ih _ _ _ _ ?_ h
    intro e a H he
    cases e with
    | goto l => exact he
    | _ => exact hq _ _ _ he
  | loop b ih =>
    intro Q Q' a H hq h
    obtain ⟨I, n, h0, h1⟩ := h
    refine ⟨I, n, h0, fun n a H hI => ih _ _ _ _ ?_ (h1 n a H hI)⟩
    intro e a H he
    cases e with
    | normal => exact he
    | _ => exact hq _ _ _ he
  | region id ops draw =>
    intro Q Q' a H hq h
    cases draw with
    | false =>
      simp only [strip, W, Array.toList_map] at h ⊢
      refine WL_mono hq stripO (fun o => ⟨rfl, rfl, rfl⟩) (fun j => ?_) _ _ _ h
      rw [strip_get]
      cases ops[j]? <;> rfl
    | true =>
      simp only [strip, W] at h ⊢
      split at h <;> try (exact h.elim)
      exact WP_mono hq _ _ _ h
  | rangeFunc => intro Q Q' a H _ h; exact h.elim
  | goto => intro Q Q' a H _ h; exact h.elim
  | refuse => intro Q Q' a H _ h; exact h.elim

/-- A call, out of what its body's walk shows. -/
theorem ACalls_W (E : Env P) {fns : FnT} {pur : PureF} {pls : Plans} (hfns : FnsOk P fns) (hm : P.follows .mixedOrders = true) (hp : PureOk P pur) {f : FuncId} {x : FnI} (hf : fns f = some x)
    (hok : codeOk pls x.code = true) {c : Code} (hc : strip x.code = c) {args : List Value} {R : Ending → AH → Prop} {H : AH} (hn : args.length ≤ x.ntmps)
    (h : W E fns pur pls c (ABody E x R) (entry args x.ntmps) H) : ACalls P f args H R := by
  subst hc
  exact ACalls_body E (hfns _ _ hf) hn (W_sound hfns hm hp _ _ _ _ hok (W_strip _ _ _ _ _ (fun _ _ _ h => h) h))


/-! the same, with what comes behind as data: so that a tactic looks at it only when it comes there -/

inductive Kont where
  | fin (Q : AQ)
  | seq (c : Code) (k : Kont)
  | block (id : Nat) (k : Kont)
  | scope (k : Kont)
  | inv (J : AAct → AH → Prop) (k : Kont)

section
variable (E : Env P) (fns : FnT) (pur : PureF) (pls : Plans)

def Kont.toQ : Kont → AQ
  | .fin Q => Q
  | .seq c k => AThen (W E fns pur pls c k.toQ) k.toQ
  | .block id k => ABlock id k.toQ
  | .scope k => ANoGoto k.toQ
  | .inv J k => AThen J k.toQ

def app (k : Kont) (e : Exit) (a : AAct) (H : AH) : Prop := k.toQ E fns pur pls e a H
def WK (c : Code) (k : Kont) (a : AAct) (H : AH) : Prop := W E fns pur pls c (k.toQ E fns pur pls) a H
def WLK (ops : Array Oper) (k : Kont) (l : List Oper) (a : AAct) (H : AH) : Prop := WL E fns pur ops (k.toQ E fns pur pls) l a H
def WPK (ops : Array Oper) (k : Kont) (pl : List Stage) (a : AAct) (H : AH) : Prop := WP E fns pur ops (k.toQ E fns pur pls) pl a H

/-- A call: and what comes behind it. -/
def CallK (g : FuncId) (args : List Value) (H : AH) (ops : Array Oper) (k : Kont) (rest : List Oper) (a : AAct) (d : Option Tmp) : Prop :=
  ACalls P g args H (ContQ (k.toQ E fns pur pls) a fun v H' => WLK E fns pur pls ops k rest (a.put d v) H')

def CallP (g : FuncId) (args : List Value) (H : AH) (ops : Array Oper) (k : Kont) (rest : List Stage) (a : AAct) (d : Option Tmp) : Prop :=
  ACalls P g args H (ContQ (k.toQ E fns pur pls) a.forget fun v H' => WPK E fns pur pls ops k rest (a.put d v) H')
end

section
variable {E : Env P} {fns : FnT} {pur : PureF} {pls : Plans} {k : Kont} {a : AAct} {H : AH}

theorem app_fin {Q : AQ} {e : Exit} : app E fns pur pls (.fin Q) e a H = Q e a H := rfl
theorem app_seq_normal {c : Code} : app E fns pur pls (.seq c k) .normal a H = WK E fns pur pls c k a H := rfl
theorem app_seq_exit {c : Code} {i : Nat} : app E fns pur pls (.seq c k) (.exit i) a H = app E fns pur pls k (.exit i) a H := rfl
theorem app_seq_ret {c : Code} : app E fns pur pls (.seq c k) .ret a H = app E fns pur pls k .ret a H := rfl
theorem app_seq_panic {c : Code} {ch : List PanicEntry} : app E fns pur pls (.seq c k) (.panic ch) a H = app E fns pur pls k (.panic ch) a H := rfl
theorem app_block_normal {i : Nat} : app E fns pur pls (.block i k) .normal a H = app E fns pur pls k .normal a H := rfl
theorem app_block_exit {i j : Nat} : app E fns pur pls (.block i k) (.exit j) a H = if j = i then app E fns pur pls k .normal a H else app E fns pur pls k (.exit j) a H := rfl
theorem app_block_ret {i : Nat} : app E fns pur pls (.block i k) .ret a H = app E fns pur pls k .ret a H := rfl
theorem app_block_panic {i : Nat} {ch : List PanicEntry} : app E fns pur pls (.block i k) (.panic ch) a H = app E fns pur pls k (.panic ch) a H := rfl
theorem app_scope_normal : app E fns pur pls (.scope k) .normal a H = app E fns pur pls k .normal a H := rfl
theorem app_scope_exit {j : Nat} : app E fns pur pls (.scope k) (.exit j) a H = app E fns pur pls k (.exit j) a H := rfl
theorem app_scope_ret : app E fns pur pls (.scope k) .ret a H = app E fns pur pls k .ret a H := rfl
theorem app_scope_panic {ch : List PanicEntry} : app E fns pur pls (.scope k) (.panic ch) a H = app E fns pur pls k (.panic ch) a H := rfl
theorem app_inv_normal {J : AAct → AH → Prop} : app E fns pur pls (.inv J k) .normal a H = J a H := rfl
theorem app_inv_exit {J : AAct → AH → Prop} {j : Nat} : app E fns pur pls (.inv J k) (.exit j) a H = app E fns pur pls k (.exit j) a H := rfl
theorem app_inv_ret {J : AAct → AH → Prop} : app E fns pur pls (.inv J k) .ret a H = app E fns pur pls k .ret a H := rfl
theorem app_inv_panic {J : AAct → AH → Prop} {ch : List PanicEntry} : app E fns pur pls (.inv J k) (.panic ch) a H = app E fns pur pls k (.panic ch) a H := rfl

theorem WK_skip : WK E fns pur pls .skip k a H = app E fns pur pls k .normal a H := rfl
theorem WK_label {l : Nat} : WK E fns pur pls (.label l) k a H = app E fns pur pls k .normal a H := rfl
theorem WK_exit {i : Nat} : WK E fns pur pls (.exit i) k a H = app E fns pur pls k (.exit i) a H := rfl
theorem WK_ret : WK E fns pur pls .ret k a H = app E fns pur pls k .ret a H := rfl
theorem WK_seq {x y : Code} : WK E fns pur pls (.seq x y) k a H = WK E fns pur pls x (.seq y k) a H := rfl
theorem WK_cond {c : Operand} {x y : Code} : WK E fns pur pls (.cond c x y) k a H =
    (match ev a c with
    | some (.bool t) => if t = true then WK E fns pur pls x k a H else WK E fns pur pls y k a H
    | _ => False) := rfl
theorem WK_block {i : Nat} {b : Code} : WK E fns pur pls (.block i b) k a H = WK E fns pur pls b (.block i k) a H := rfl
theorem WK_scope {b : Code} : WK E fns pur pls (.scope b) k a H = WK E fns pur pls b (.scope k) a H := rfl
theorem WK_loop {b : Code} : WK E fns pur pls (.loop b) k a H =
    ∃ (I : Nat → AAct → AH → Prop) (n : Nat), I n a H ∧ ∀ n a H, I n a H → WK E fns pur pls b (.inv (fun a H => ∃ m, m < n ∧ I m a H) k) a H := rfl
theorem WK_region {id : Nat} {ops : Array Oper} : WK E fns pur pls (.region id ops false) k a H = WLK E fns pur pls ops k ops.toList a H := rfl
theorem WK_draw {id : Nat} {ops : Array Oper} : WK E fns pur pls (.region id ops true) k a H =
    (match planFor pls id with
    | some pl => WPK E fns pur pls ops k pl a H
    | none => False) := rfl

theorem WLK_nil {ops : Array Oper} : WLK E fns pur pls ops k [] a H = app E fns pur pls k .normal a H := rfl
theorem WLK_cons {ops : Array Oper} {o : Oper} {rest : List Oper} : WLK E fns pur pls ops k (o :: rest) a H =
    (dstOk a o.dst = true ∧
    match want ops o a with
    | none => False
    | some false => WLK E fns pur pls ops k rest (a.put o.dst undef) H
    | some true =>
      match o.op with
      | .panic x =>
        match ev a x with
        | some (.iface t v) => app E fns pur pls k (.panic [{ v := .iface t v, recovered := false }]) a H
        | _ => False
      | .defer c =>
        match deferOf fns a c with
        | some d => WLK E fns pur pls ops k rest (({ a with defers := d :: a.defers } : AAct).put o.dst undef) H
        | none => False
      | _ =>
        match opR E a H o with
        | some v => WLK E fns pur pls ops k rest (a.put o.dst v) H
        | none =>
          match opE E a H o with
          | some (v, H') => WLK E fns pur pls ops k rest (a.put o.dst v) H'
          | none =>
            match opC fns a o with
            | some (g, args) =>
              match pur g args with
              | some v => WLK E fns pur pls ops k rest (a.put o.dst v) H
              | none => CallK E fns pur pls g args H ops k rest a o.dst
            | none => False) := rfl

theorem WPK_cons {ops : Array Oper} {s : Stage} {rest : List Stage} : WPK E fns pur pls ops k (s :: rest) a H =
    (match evNewA E fns pur ops H s.new a with
    | none => False
    | some a1 => WChks E fns pur ops a1 H (s.new ++ s.again) ∧
      match s.eff with
      | none => app E fns pur pls k .normal a1 H
      | some i =>
        match ops[i]? with
        | none => False
        | some o => dstOk a1 o.dst = true ∧
          match want ops o a1 with
          | none => False
          | some false => WPK E fns pur pls ops k rest (a1.put o.dst undef) H
          | some true =>
            match opR E a1 H o with
            | some v => WPK E fns pur pls ops k rest (a1.put o.dst v) H
            | none =>
              match opE E a1 H o with
              | some (v, H') => WPK E fns pur pls ops k rest (a1.put o.dst v) H'
              | none =>
                match opC fns a1 o with
                | some (g, args) =>
                  match pur g args with
                  | some v => WPK E fns pur pls ops k rest (a1.put o.dst v) H
                  | none => CallP E fns pur pls g args H ops k rest a1 o.dst
                | none => False) := by
  show WP E fns pur ops (k.toQ E fns pur pls) (s :: rest) a H = _
  unfold WP
  rfl

/-- A call by what it is known to do. -/
theorem CallK_of {g : FuncId} {args : List Value} {ops : Array Oper} {rest : List Oper} {d : Option Tmp} {R : Ending → AH → Prop} (h : ACalls P g args H R)
    (hk : ∀ v H', R (.returned v) H' → WLK E fns pur pls ops k rest (a.put d v) H') (hp : ∀ ch H', R (.panicked ch) H' → app E fns pur pls k (.panic ch) a H')
    (ho : ∀ H', R .outgrown H' → False) : CallK E fns pur pls g args H ops k rest a d := by
  refine h.mono fun e H' he => ?_
  cases e with
  | returned v => exact hk v H' he
  | panicked ch => exact hp ch H' he
  | outgrown => exact ho H' he

theorem CallP_of {g : FuncId} {args : List Value} {ops : Array Oper} {rest : List Stage} {d : Option Tmp} {R : Ending → AH → Prop} (h : ACalls P g args H R)
    (hk : ∀ v H', R (.returned v) H' → WPK E fns pur pls ops k rest (a.put d v) H') (hp : ∀ ch H', R (.panicked ch) H' → app E fns pur pls k (.panic ch) a.forget H')
    (ho : ∀ H', R .outgrown H' → False) : CallP E fns pur pls g args H ops k rest a d := by
  refine h.mono fun e H' he => ?_
  cases e with
  | returned v => exact hk v H' he
  | panicked ch => exact hp ch H' he
  | outgrown => exact ho H' he

end

/-- A call, out of what its body's walk shows. -/
theorem ACalls_K (E : Env P) {fns : FnT} {pur : PureF} {pls : Plans} (hfns : FnsOk P fns) (hm : P.follows .mixedOrders = true) (hp : PureOk P pur) {f : FuncId} {x : FnI} (hf : fns f = some x)
    (hok : codeOk pls x.code = true) {c : Code} (hc : strip x.code = c) {args : List Value} {R : Ending → AH → Prop} {H : AH} (hn : args.length ≤ x.ntmps)
    (h : WK E fns pur pls c (.fin (ABody E x R)) (entry args x.ntmps) H) : ACalls P f args H R :=
  ACalls_W E hfns hm hp hf hok hc hn h

end Go.Am
