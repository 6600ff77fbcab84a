/- Part of the proof: an abstract machine of our own over the model; no condition. -/
import Derived.Test.YtdicnaninnmoeaaGreatAmO2
import Derived.Recover
import Derived.Scope
set_option linter.unusedSectionVars false
set_option linter.unusedSimpArgs false
set_option linter.unusedVariables false
set_option linter.unnecessarySimpa false
/- The abstract machine, part O3: the evaluator, whole: code, calls, deferred calls. -/
namespace Go.Am
open Go
variable [F : Fr]

variable {P : Program}

/-! the evaluator -/

abbrev Plans := List (Nat × List Stage)

def planFor (pls : Plans) (id : Nat) : Option (List Stage) := pls.lookup id

def codeOk (pls : Plans) : Code → Bool
  | .region id ops true => match planFor pls id with | some pl => planOk ops pl | none => true
  | .seq a b | .cond _ a b => codeOk pls a && codeOk pls b
  | .block _ a | .loop a | .scope a => codeOk pls a
  | _ => true

section exec
variable (E : Env P) (fns : FnT) (pur : PureF) (call : CallF) (pls : Plans)

def exec : Nat → Code → EA → AH → Option (Exit × EA × AH)
  | 0, _, _, _ => none
  | n + 1, c, e, H =>
    match c with
    | .skip => some (.normal, e, H)
    | .exit id => some (.exit id, e, H)
    | .ret => some (.ret, e, H)
    | .seq a b =>
      match exec n a e H with
      | some (.normal, e1, H1) => exec n b e1 H1
      | r => r
    | .cond c x y =>
      match ev e.to c with
      | some (.bool true) => exec n x e H
      | some (.bool false) => exec n y e H
      | _ => none
    | .block id b =>
      match exec n b e H with
      | some (.exit id', e1, H1) => if id' = id then some (.normal, e1, H1) else some (.exit id', e1, H1)
      | r => r
    | .loop b =>
      match exec n b e H with
      | some (.normal, e1, H1) => exec n (.loop b) e1 H1
      | r => r
    | .label _ => some (.normal, e, H)
    | .scope b =>
      match exec n b e H with
      | some (.goto _, _, _) => none
      | r => r
    | .region _ ops false => runL E fns call ops ops.toList e H
    | .region id ops true =>
      match planFor pls id with
      | some pl => runPlan E fns pur call ops pl e H
      | none => none
    | _ => none

end exec

def recM : FrameMode → Option (Value × FrameMode)
  | .panicking ({ v, recovered := false, goexit := false } :: older) => some (v, .panicking ({ v, recovered := true } :: older))
  | _ => none

def isRec (o : Oper) : Bool :=
  match o.op with
  | .call c =>
    match c.callee with
    | .builtin .recover => true
    | _ => false
  | _ => false

section exec
variable (E : Env P) (fns : FnT) (pur : PureF) (pls : FuncId → Plans) (lim : Nat)

def execS (call : CallF) (pl : Plans) : Nat → Code → EA → AH → FrameMode → Option (Exit × EA × AH × FrameMode)
  | 0, _, _, _, _ => none
  | n + 1, c, e, H, u =>
    match c with
    | .seq a b =>
      match execS call pl n a e H u with
      | some (.normal, e1, H1, u1) => execS call pl n b e1 H1 u1
      | r => r
    | .region id ops false =>
      match ops.toList with
      | [o] =>
        if isRec o && o.guard.isNone && dstOk e.to o.dst then
          match recM u with
          | some (v, u') => some (.normal, e.put o.dst v, H, u')
          | none => some (.normal, e.put o.dst .nilIface, H, u)
        else (exec E fns pur call pl (n + 1) (.region id ops false) e H).map fun r => (r.1, r.2.1, r.2.2, u)
      | _ => (exec E fns pur call pl (n + 1) (.region id ops false) e H).map fun r => (r.1, r.2.1, r.2.2, u)
    | c => (exec E fns pur call pl (n + 1) c e H).map fun r => (r.1, r.2.1, r.2.2, u)

def argE : Nat → List Value → Tr Value
  | _, [] => .e
  | k, v :: vs => Tr.put (k + 1) (argE (k + 1) vs) k (some v)

def entryE (args : List Value) (n : Nat) : EA := { n := n, tm := argE 0 args, defers := [] }

def bodyD (call : CallF) (g : FuncId) (args : List Value) (u : FrameMode) (H : AH) : Option (Ending × FrameMode × AH) :=
  match fns g with
  | none => none
  | some x =>
    if args.length ≤ x.ntmps then
      match execS E fns pur call (pls g) lim x.code (entryE args x.ntmps) H u with
      | some (ex, e, H1, u1) =>
        match e.defers, ex with
        | [], .normal | [], .ret => (aResults E e.to H1 x.results).map fun vs => (.returned (tupleOf vs), u1, H1)
        | [], .panic ch => some (.panicked ch, u1, H1)
        | _, _ => none
      | none => none
    else none

def leave (call : CallF) (x : FnI) (e : EA) : List Deferred → FrameMode → AH → Option (Ending × AH)
  | [], .returning, H => (aResults E e.to H x.results).map fun vs => (.returned (tupleOf vs), H)
  | [], .panicking ch, H => some (.panicked ch, H)
  | [], .run, _ => none
  | _ :: _, .run, _ => none
  | d :: ds, u, H =>
    match d.target with
    | .fn (.func g) cap =>
      match bodyD E fns pur pls lim call g (d.args.toList ++ cap.toList) u H with
      | some (.returned _, u', H') => leave call x e ds (settle u') H'
      | some (.panicked ch, u', H') => leave call x e ds (raised u' ch) H'
      | _ => none
    | _ => none

def callOf : Nat → CallF
  | 0, _, _, _ => none
  | n + 1, g, args, H =>
    match pur g args with
    | some v => some (.returned v, H)
    | none =>
      match fns g with
      | none => none
      | some x =>
        if args.length ≤ x.ntmps then
          match exec E fns pur (callOf n) (pls g) lim x.code (entryE args x.ntmps) H with
          | some (.normal, e, H1) | some (.ret, e, H1) => leave E fns pur pls lim (callOf n) x e e.defers .returning H1
          | some (.panic ch, e, H1) => leave E fns pur pls lim (callOf n) x e e.defers (.panicking ch) H1
          | _ => none
        else none

end exec

/-! soundness: code -/

theorem AWP_label {l : Nat} {Q : Exit → AAct → AH → Prop} {a : AAct} {H : AH} (h : Q .normal a H) : AWP P (.label l) Q a H :=
  fun σ _ _ hr ha => wp_label ⟨σ, .normal, a, H, Le.refl _, hr, ha, .normal, h⟩

def ANoGoto (Q : Exit → AAct → AH → Prop) : Exit → AAct → AH → Prop
  | .goto _, _, _ => False
  | e, a, H => Q e a H

theorem AWP_scope {c : Code} {Q : Exit → AAct → AH → Prop} {a : AAct} {H : AH} (h : AWP P c (ANoGoto Q) a H) : AWP P (.scope c) Q a H := by
  intro σ w a' hr ha
  refine wp_scope_straight (wp_mono (h σ w a' hr ha) ?_)
  rintro e a1 w1 ⟨σ', e0, a0, H0, hle, hr', ha', he, hq⟩
  cases he with
  | normal => exact ⟨σ', _, a0, H0, hle, hr', ha', .normal, hq⟩
  | exit id => exact ⟨σ', _, a0, H0, hle, hr', ha', .exit id, hq⟩
  | goto l => exact hq.elim
  | ret => exact ⟨σ', _, a0, H0, hle, hr', ha', .ret, hq⟩
  | panic c c' h => exact ⟨σ', _, a0, H0, hle, hr', ha', .panic c c' h, hq⟩


theorem exec_sound (E : Env P) {fns : FnT} (hfns : FnsOk P fns) (hm : P.follows .mixedOrders = true) {pur : PureF} (hpur : PureOk P pur) {call : CallF} (hcall : CallSound P call) {pls : Plans} :
    ∀ (n : Nat) (c : Code) (e : EA) (H : AH) (x : Exit) (e' : EA) (H' : AH), codeOk pls c = true → exec E fns pur call pls n c e H = some (x, e', H') →
      ∀ Q : Exit → AAct → AH → Prop, Q x e'.to H' → AWP P c Q e.to H := by
  intro n
  induction n using Nat.strongRecOn with
  | _ n0 ih0 =>
  cases n0 with
  | zero => intro c e H x e' H' _ h; cases h
  | succ n =>
    have ih := ih0 n (Nat.lt_succ_self n)
    intro c e H x e' H' hok h Q hq
    unfold exec at h
    split at h <;> try (cases h; done)
    · cases h; exact AWP_skip hq
    · cases h; exact AWP_exit hq
    · cases h; exact AWP_ret hq
    · rename_i a b
      simp only [codeOk, Bool.and_eq_true] at hok
      refine AWP_seq ?_
      split at h
      · rename_i e1 H1 h1
        refine ih _ _ _ _ _ _ hok.1 h1 _ ?_
        exact ih _ _ _ _ _ _ hok.2 h _ hq
      · rename_i h1
        refine ih _ _ _ _ _ _ hok.1 h _ ?_
        cases x with
        | normal => exact absurd h (h1 _ _)
        | _ => exact hq
    · rename_i c x' y
      simp only [codeOk, Bool.and_eq_true] at hok
      split at h <;> try (cases h; done)
      · rename_i hc
        exact AWP_cond hc (ih _ _ _ _ _ _ hok.1 h _ hq)
      · rename_i hc
        exact AWP_cond hc (ih _ _ _ _ _ _ hok.2 h _ hq)
    · rename_i id b
      simp only [codeOk] at hok
      refine AWP_block ?_
      split at h
      · rename_i id' e1 H1 h1
        refine ih _ _ _ _ _ _ hok h1 _ ?_
        simp only [ABlock]
        split at h
        · rename_i hid
          cases h
          rw [if_pos hid]; exact hq
        · rename_i hid
          cases h
          rw [if_neg hid]; exact hq
      · rename_i h1
        refine ih _ _ _ _ _ _ hok h _ ?_
        cases x with
        | exit id' => exact absurd h (h1 _ _ _)
        | _ => exact hq
    · rename_i b
      have hokb := hok
      simp only [codeOk] at hokb
      have h0 : exec E fns pur call pls (n + 1) (.loop b) e H = some (x, e', H') := by unfold exec; exact h
      refine AWP_loop (fun m a H => m ≤ n + 1 ∧ ∃ e, a = e.to ∧ exec E fns pur call pls m (.loop b) e H = some (x, e', H')) (n + 1) ⟨Nat.le_refl _, e, rfl, h0⟩ ?_
      rintro m a1 H1 ⟨hm1, e1, rfl, h1⟩
      cases m with
      | zero => cases h1
      | succ m =>
        unfold exec at h1
        simp only at h1
        have ih := ih0 m (by omega)
        split at h1
        · rename_i e2 H2 h2
          exact ih _ _ _ _ _ _ hokb h2 _ ⟨m, Nat.lt_succ_self m, by omega, e2, rfl, h1⟩
        · rename_i h2
          refine ih _ _ _ _ _ _ hokb h1 _ ?_
          cases x with
          | normal => exact absurd h1 (h2 _ _)
          | _ => exact hq
    · cases h; exact AWP_label hq
    · rename_i b
      simp only [codeOk] at hok
      refine AWP_scope ?_
      split at h <;> try (cases h; done)
      rename_i h1
      refine ih _ _ _ _ _ _ hok h _ ?_
      cases x with
      | goto l => exact absurd h (h1 _ _ _)
      | _ => exact hq
    · rename_i id ops
      refine AWP_region ?_
      rw [List.range_eq_range']
      exact runL_sound E hfns hcall _ _ _ _ _ _ _ _ rfl (by simp) h hq
    · rename_i id ops
      simp only [codeOk] at hok
      split at h <;> try (cases h; done)
      rename_i pl hpl
      rw [hpl] at hok
      exact AWP_draw E hfns hm hok (runPlan_sound E hpur hcall _ _ _ _ _ _ h hq)

end Go.Am
