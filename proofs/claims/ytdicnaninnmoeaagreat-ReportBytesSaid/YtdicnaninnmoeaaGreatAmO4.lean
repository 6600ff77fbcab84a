/- Part of the proof: an abstract machine of our own over the model; no condition. -/
import Derived.Test.YtdicnaninnmoeaaGreatAmO3
set_option linter.unusedSectionVars false
set_option linter.unusedSimpArgs false
set_option linter.unusedVariables false
set_option linter.unnecessarySimpa false
/- The abstract machine, part O4: deferred calls, and calls, are sound. -/
namespace Go.Am
open Go
variable [F : Fr]

variable {P : Program} {σ : Sig} {H : AH} {w : World}

inductive FR (σ : Sig) : FrameMode → FrameMode → Prop
  | run : FR σ .run .run
  | returning : FR σ .returning .returning
  | panicking (c c' : List PanicEntry) (h : PEs σ c c') : FR σ (.panicking c) (.panicking c')

theorem FR.mono {σ σ' : Sig} (hle : Le σ σ') {u u' : FrameMode} : FR σ u u' → FR σ' u u'
  | .run => .run
  | .returning => .returning
  | .panicking c c' h => .panicking c c' (h.mono hle)

theorem PEs.append {c c' d d' : List PanicEntry} (h : PEs σ c c') (h2 : PEs σ d d') : PEs σ (c ++ d) (c' ++ d') := by
  induction h with
  | nil => exact h2
  | cons h _ ih => exact .cons h ih

theorem PEs.dropWhile {c c' : List PanicEntry} (h : PEs σ c c') : PEs σ (c.dropWhile (!·.goexit)) (c'.dropWhile (!·.goexit)) := by
  induction h with
  | nil => exact .nil
  | @cons p p' l l' h hs ih =>
    simp only [List.dropWhile_cons, ← h.g]
    split
    · exact ih
    · exact .cons h hs

theorem FR.settle {u u' : FrameMode} (h : FR σ u u') : FR σ (settle u) (settle u') := by
  cases h with
  | run => exact .run
  | returning => exact .returning
  | panicking c c' h =>
    cases h with
    | nil => exact .panicking _ _ .nil
    | @cons p p' l l' hp hs =>
      obtain ⟨v, r, g⟩ := p
      obtain ⟨v', r', g'⟩ := p'
      have hr := hp.r
      simp only at hr
      subst hr
      cases r with
      | false => exact .panicking _ _ (.cons hp hs)
      | true =>
        have hd := hs.dropWhile
        simp only [Go.settle]
        revert hd
        generalize l.dropWhile (!·.goexit) = x
        generalize l'.dropWhile (!·.goexit) = x'
        intro hd
        cases hd with
        | nil => exact .returning
        | cons h hs => exact .panicking _ _ (.cons h hs)

theorem FR.raised {u u' : FrameMode} (h : FR σ u u') {c c' : List PanicEntry} (hc : PEs σ c c') : FR σ (raised u c) (raised u' c') := by
  cases h with
  | run => exact .panicking _ _ hc
  | returning => exact .panicking _ _ hc
  | panicking d d' hd => exact .panicking _ _ (hc.append hd)

/-! code in a deferred frame -/

def LiftS (P : Program) (σ : Sig) (Q : Exit → AAct → AH → FrameMode → Prop) (c₀ : Frame) (cs : List Frame) : Exit → Act → List Frame → World → Prop :=
  fun e' a' cs' w' => ∃ σ' e a H u u', Le σ σ' ∧ HR P σ' H w' ∧ AR σ' a a' ∧ ExR σ' e e' ∧ FR σ' u u' ∧ cs' = { c₀ with mode := u' } :: cs ∧ Q e a H u

theorem LiftS.le {σ σ' : Sig} (hle : Le σ σ') {Q : Exit → AAct → AH → FrameMode → Prop} {c₀ : Frame} {cs : List Frame} {e a cs' w} (h : LiftS P σ' Q c₀ cs e a cs' w) :
    LiftS P σ Q c₀ cs e a cs' w := by
  obtain ⟨σ'', e, a, H, u, u', h1, h2⟩ := h
  exact ⟨σ'', e, a, H, u, u', hle.trans h1, h2⟩

def AWPS (P : Program) (c : Code) (Q : Exit → AAct → AH → FrameMode → Prop) (a : AAct) (H : AH) (u : FrameMode) : Prop :=
  ∀ σ w a' u' c₀ cs, HR P σ H w → AR σ a a' → FR σ u u' → c.wpS P (LiftS P σ Q c₀ cs) a' ({ c₀ with mode := u' } :: cs) w

theorem wpS_mono {c : Code} {Q Q' : Exit → Act → List Frame → World → Prop} {a : Act} {cs : List Frame} {w : World} (h : c.wpS P Q a cs w)
    (hq : ∀ e a cs w, Q e a cs w → Q' e a cs w) : c.wpS P Q' a cs w :=
  fun b k hb hr => let ⟨e, a', cs', w', q, r⟩ := h b k hb hr; ⟨e, a', cs', w', hq _ _ _ _ q, r⟩

theorem AWPS_of {c : Code} {Q : Exit → AAct → AH → FrameMode → Prop} {a : AAct} {u : FrameMode} (h : AWP P c (fun e a H => Q e a H u) a H) : AWPS P c Q a H u := by
  intro σ w a' u' c₀ cs hr ha hu
  refine wpS_of_wp (wp_mono (h σ w a' hr ha) ?_)
  rintro e' a1 w1 ⟨σ', e, a, H, hle, hr', ha', he, hq⟩
  exact ⟨σ', e, a, H, u, u', hle, hr', ha', he, hu.mono hle, rfl, hq⟩

theorem AWPS_seq {x y : Code} {Q : Exit → AAct → AH → FrameMode → Prop} {a : AAct} {u : FrameMode}
    (h : AWPS P x (fun e a H u => match e with | .normal => AWPS P y Q a H u | e => Q e a H u) a H u) : AWPS P (.seq x y) Q a H u := by
  intro σ w a' u' c₀ cs hr ha hu
  refine wpS_seq (wpS_mono (h σ w a' u' c₀ cs hr ha hu) ?_)
  rintro e a1 cs1 w1 ⟨σ', e0, a0, H0, u0, u0', hle, hr', ha', he, hu', rfl, hq⟩
  cases he with
  | normal => exact wpS_mono (hq σ' w1 a1 u0' c₀ cs hr' ha' hu') fun _ _ _ _ hl => hl.le hle
  | exit id => exact ⟨σ', _, a0, H0, u0, u0', hle, hr', ha', .exit id, hu', rfl, hq⟩
  | goto l => exact ⟨σ', _, a0, H0, u0, u0', hle, hr', ha', .goto l, hu', rfl, hq⟩
  | ret => exact ⟨σ', _, a0, H0, u0, u0', hle, hr', ha', .ret, hu', rfl, hq⟩
  | panic c c' h => exact ⟨σ', _, a0, H0, u0, u0', hle, hr', ha', .panic c c' h, hu', rfl, hq⟩

theorem recM_rel {u u' : FrameMode} (h : FR σ u u') (c₀ : Frame) (cs : List Frame) :
    match recM u with
    | some (v, u1) => ∃ v' u1', VR σ v v' ∧ FR σ u1 u1' ∧ recoverD ({ c₀ with mode := u' } :: cs) = some (v', { c₀ with mode := u1' } :: cs)
    | none => recoverD ({ c₀ with mode := u' } :: cs) = none := by
  cases h with
  | run => simp [recM, recoverD]
  | returning => simp [recM, recoverD]
  | panicking c c' h =>
    cases h with
    | nil => simp [recM, recoverD]
    | @cons p p' l l' hp hs =>
      obtain ⟨v, r, g⟩ := p
      obtain ⟨v', r', g'⟩ := p'
      have hr := hp.r
      have hg := hp.g
      simp only at hr hg
      subst hr
      subst hg
      cases r <;> cases g <;> simp only [recM, recoverD]
      exact ⟨v', .panicking ({ v := v', recovered := true } :: l'), hp.v, .panicking _ _ (.cons ⟨hp.v, rfl, rfl⟩ hs), rfl⟩

theorem isRec_run {o : Oper} (h : isRec o = true) (a : Act) : (execOp a.eval o).run P w = .ok .recover w := by
  unfold isRec at h
  split at h <;> try (cases h; done)
  rename_i c ho
  split at h <;> try (cases h; done)
  rename_i hc
  simp [execOp, ho, resolve, hc, invoke, builtin]

theorem AWPS_rec {id : Nat} {ops : Array Oper} {o : Oper} (ho : ops.toList = [o]) (hi : isRec o = true) (hg : o.guard = none) {Q : Exit → AAct → AH → FrameMode → Prop} {a : AAct} {u : FrameMode}
    (hd : dstOk a o.dst = true)
    (h : match recM u with | some (v, u') => Q .normal (a.put o.dst v) H u' | none => Q .normal (a.put o.dst .nilIface) H u) : AWPS P (.region id ops false) Q a H u := by
  intro σ w a' u' c₀ cs hr ha hu
  refine wpS_region ?_
  have hops : ops = #[o] := by
    cases ops with
    | mk l => simp at ho; rw [ho]
  subst hops
  have hw : Region.wanted o (yielded #[o] a'.tmps) = true := by simp [Region.wanted, hg]
  have hrel := recM_rel hu c₀ cs
  simp only [List.size_toArray, List.length_cons, List.length_nil, Nat.zero_add, List.range_one]
  simp only [wpOpsS, List.getElem?_toArray, List.getElem?_cons_zero, hw, if_true, isRec_run hi]
  cases hm : recM u with
  | none =>
    rw [hm] at h hrel
    simp only at h hrel
    simp only [hrel]
    exact ⟨σ, .normal, _, H, u, u', Le.refl _, hr, ha.put hd .nilIface, .normal, hu, rfl, h⟩
  | some r =>
    obtain ⟨v, u1⟩ := r
    rw [hm] at h hrel
    simp only at h hrel
    obtain ⟨v', u1', hv, hu1, hrec⟩ := hrel
    simp only [hrec]
    exact ⟨σ, .normal, _, H, u1, u1', Le.refl _, hr, ha.put hd hv, .normal, hu1, rfl, h⟩

theorem execS_sound (E : Env P) {fns : FnT} (hfns : FnsOk P fns) (hm : P.follows .mixedOrders = true) {pur : PureF} (hpur : PureOk P pur) {call : CallF} (hcall : CallSound P call) {pl : Plans} :
    ∀ (n : Nat) (c : Code) (e : EA) (H : AH) (u : FrameMode) (x : Exit) (e' : EA) (H' : AH) (u' : FrameMode), codeOk pl c = true →
      execS E fns pur call pl n c e H u = some (x, e', H', u') → ∀ Q : Exit → AAct → AH → FrameMode → Prop, Q x e'.to H' u' → AWPS P c Q e.to H u := by
  intro n
  induction n with
  | zero => intro c e H u x e' H' u' _ h; cases h
  | succ n ih =>
    intro c e H u x e' H' u' hok h Q hq
    have base : ∀ c', c' = c → (exec E fns pur call pl (n + 1) c' e H).map (fun r => (r.1, r.2.1, r.2.2, u)) = some (x, e', H', u') → AWPS P c Q e.to H u := by
      rintro c' rfl h
      simp only [Option.map_eq_some_iff] at h
      obtain ⟨⟨x1, e1, H1⟩, h1, h2⟩ := h
      simp only [Prod.mk.injEq] at h2
      obtain ⟨rfl, rfl, rfl, rfl⟩ := h2
      exact AWPS_of (exec_sound E hfns hm hpur hcall _ _ _ _ _ _ _ hok h1 _ hq)
    unfold execS at h
    split at h
    · rename_i a b
      simp only [codeOk, Bool.and_eq_true] at hok
      refine AWPS_seq ?_
      split at h
      · rename_i e1 H1 u1 h1
        refine ih _ _ _ _ _ _ _ _ hok.1 h1 _ ?_
        exact ih _ _ _ _ _ _ _ _ hok.2 h _ hq
      · rename_i h1
        refine ih _ _ _ _ _ _ _ _ hok.1 h _ ?_
        cases x with
        | normal => exact absurd h (h1 _ _ _)
        | _ => exact hq
    · rename_i id ops
      split at h
      · rename_i o ho
        split at h
        · rename_i hb
          simp only [Bool.and_eq_true, Option.isNone_iff_eq_none] at hb
          obtain ⟨⟨hi, hg⟩, hd⟩ := hb
          refine AWPS_rec ho hi hg hd ?_
          split at h
          · rename_i v u1 hr
            cases h
            rw [hr]
            rw [EA.put_to] at hq
            exact hq
          · rename_i hr
            cases h
            rw [hr]
            rw [EA.put_to] at hq
            exact hq
        · exact base _ rfl h
      · exact base _ rfl h
    · exact base _ rfl h

/-! bodies, deferred -/

theorem argE_get : ∀ (args : List Value) (k : Nat), (argE k args).get = argT k args := by
  intro args
  induction args with
  | nil => intro k; funext t; simp [argE, argT, Tr.get]
  | cons v vs ih =>
    intro k
    funext t
    simp only [argE, argT]
    rw [Tr.get_put _ _ _ _ _ (Nat.lt_succ_self k), ih]

theorem entryE_to (args : List Value) (n : Nat) : (entryE args n).to = entry args n := by
  simp only [entryE, EA.to, entry, argE_get]

def PlansOk (fns : FnT) (pls : FuncId → Plans) : Prop := ∀ f x, fns f = some x → codeOk (pls f) x.code = true

theorem bodyD_sound (E : Env P) {fns : FnT} (hfns : FnsOk P fns) (hm : P.follows .mixedOrders = true) {pur : PureF} (hpur : PureOk P pur) {call : CallF} (hcall : CallSound P call) {pls : FuncId → Plans}
    (hpls : PlansOk fns pls) {lim : Nat} {g : FuncId} {args : List Value} {u : FrameMode} {en : Ending} {u1 : FrameMode} {H' : AH}
    (h : bodyD E fns pur pls lim call g args u H = some (en, u1, H')) {R : Ending → AH → FrameMode → Prop} (hR : R en H' u1)
    {args' : Array Value} {u' : FrameMode} (hr : HR P σ H w) (hargs : VRs σ args args'.toList) (hu : FR σ u u') :
    CallsD P g args' u' w fun e' u2' w' => ∃ σ' e H u2, Le σ σ' ∧ HR P σ' H w' ∧ EnR σ' e e' ∧ FR σ' u2 u2' ∧ R e H u2 := by
  unfold bodyD at h
  split at h <;> try (cases h; done)
  rename_i x hx
  split at h <;> try (cases h; done)
  rename_i hn
  split at h <;> try (cases h; done)
  rename_i ex e H1 u2 hex
  obtain ⟨fn, h1, h2, h3, h4, _⟩ := (hfns g x hx).ex
  refine callsD_of_wpS h1 h2 fun c₀ cs hc => ?_
  rw [h3]
  have hc2 : c₀ = { c₀ with mode := u' } := by subst hc; rfl
  have key := execS_sound E hfns hm hpur hcall _ _ _ _ _ _ _ _ _ (hpls g x hx) hex
    (fun ex2 a2 H2 u3 => (match e.defers, ex2 with
        | [], .normal | [], .ret => a2.defers = [] ∧ ∃ vs, aResults E a2 H2 x.results = some vs ∧ R (.returned (tupleOf vs)) H2 u3
        | [], .panic ch => a2.defers = [] ∧ R (.panicked ch) H2 u3
        | _, _ => False))
    (by
      split at h <;> try (cases h; done)
      · rename_i hd
        simp only [Option.map_eq_some_iff] at h
        obtain ⟨vs, hvs, h⟩ := h
        cases h
        simp only [hd]
        exact ⟨hd, vs, hvs, hR⟩
      · rename_i hd
        simp only [Option.map_eq_some_iff] at h
        obtain ⟨vs, hvs, h⟩ := h
        cases h
        simp only [hd]
        exact ⟨hd, vs, hvs, hR⟩
      · rename_i hd
        cases h
        simp only [hd]
        exact ⟨hd, hR⟩)
  rw [entryE_to] at key
  have hk := key σ w _ u' c₀ cs hr (entry_AR hargs hn) hu
  rw [← hc2] at hk
  refine wpS_mono hk ?_
  rintro e' a' cs' w' ⟨σ', e0, a, H2, u0, u0', hle, hr', ha, he, hu0, rfl, hq⟩
  have ret : (a.defers = [] ∧ ∃ vs, aResults E a H2 x.results = some vs ∧ R (.returned (tupleOf vs)) H2 u0) →
      a'.defers = [] ∧ ∃ v, (results fn a'.tmps).run P w' = .ok v w' ∧ ∃ σ' e H u2, Le σ σ' ∧ HR P σ' H w' ∧ EnR σ' e (.returned v) ∧ FR σ' u2 u0' ∧ R e H u2 := by
    rintro ⟨hd, vs, hvs, hR⟩
    refine ⟨by have := ha.defers; rw [hd] at this; exact this.nil_inv, ?_⟩
    obtain ⟨vs', hrun, hvv⟩ := aResults_sound E hr' ha (rget a'.tmps) (fun t => rfl) (fun p t => rfl) _ _ hvs
    refine ⟨if h : vs'.toArray.size = 1 then vs'.toArray[0] else .tuple vs'.toArray, ?_, σ', _, H2, u0, hle, hr', .returned _ _ (VR_tupleOf (by simpa using hvv)), hu0, hR⟩
    rw [results_eq, Array.mapM_eq_mapM_toList, h4]
    simp only [Sem.run_bind, Sem.run_map, hrun, Result.andThen_ok, Sem.run_pure]
  split at hq <;> try (exact hq.elim)
  · cases he
    obtain ⟨hd, v, hv, hh⟩ := ret hq
    exact ⟨hd, u0', rfl, v, hv, hh⟩
  · cases he
    obtain ⟨hd, v, hv, hh⟩ := ret hq
    exact ⟨hd, u0', rfl, v, hv, hh⟩
  · cases he with
    | panic _ c' hc =>
      exact ⟨by have := ha.defers; rw [hq.1] at this; exact this.nil_inv, u0', rfl, σ', _, H2, u0, hle, hr', .panicked _ _ hc, hu0, hq.2⟩

theorem leave_sound (E : Env P) {fns : FnT} (hfns : FnsOk P fns) (hm : P.follows .mixedOrders = true) {pur : PureF} (hpur : PureOk P pur) {call : CallF} (hcall : CallSound P call) {pls : FuncId → Plans}
    (hpls : PlansOk fns pls) {lim : Nat} {x : FnI} {fn : Func} (hres : fn.results.toList = x.results) {e : EA} {R : Ending → AH → Prop} :
    ∀ (ds : List Deferred) (u : FrameMode) (H : AH) (en : Ending) (H' : AH), leave E fns pur pls lim call x e ds u H = some (en, H') → R en H' →
      ∀ (σ0 σ : Sig) (w : World) (a' : Act) (ds' : List Deferred) (u' : FrameMode), Le σ0 σ → HR P σ H w → AR σ e.to a' → DRs σ ds ds' → FR σ u u' →
        Leaves P fn a'.tmps (LiftE P σ0 R) ds' u' w := by
  intro ds
  induction ds with
  | nil =>
    intro u H en H' h hR σ0 σ w a' ds' u' hle hr ha hds hu
    cases hds
    cases hu with
    | run => cases h
    | returning =>
      simp only [leave, Option.map_eq_some_iff] at h
      obtain ⟨vs, hvs, h⟩ := h
      cases h
      obtain ⟨vs', hrun, hvv⟩ := aResults_sound E hr ha (rget a'.tmps) (fun t => rfl) (fun p t => rfl) _ _ hvs
      refine ⟨if h : vs'.toArray.size = 1 then vs'.toArray[0] else .tuple vs'.toArray, ?_, σ, _, H, hle, hr, .returned _ _ (VR_tupleOf (by simpa using hvv)), hR⟩
      rw [results_eq, Array.mapM_eq_mapM_toList, hres]
      simp only [Sem.run_bind, Sem.run_map, hrun, Result.andThen_ok, Sem.run_pure]
    | panicking c c' hc =>
      simp only [leave, Option.some.injEq, Prod.mk.injEq] at h
      obtain ⟨rfl, rfl⟩ := h
      exact ⟨σ, _, H, hle, hr, .panicked _ _ hc, hR⟩
  | cons d ds ih =>
    intro u H en H' h hR σ0 σ w a' ds' u' hle hr ha hds hu
    cases hds with
    | @cons _ d' _ l' hd hs =>
      have hrun : u ≠ .run := by rintro rfl; cases h
      have hrun' : u' ≠ .run := by rintro rfl; cases hu; exact hrun rfl
      have h' : (match d.target with
          | .fn (.func g) cap =>
            match bodyD E fns pur pls lim call g (d.args.toList ++ cap.toList) u H with
            | some (.returned _, u', H') => leave E fns pur pls lim call x e ds (settle u') H'
            | some (.panicked ch, u', H') => leave E fns pur pls lim call x e ds (raised u' ch) H'
            | _ => none
          | _ => none) = some (en, H') := by
        cases u with
        | run => exact absurd rfl hrun
        | returning => exact h
        | panicking c => exact h
      split at h' <;> try (cases h'; done)
      rename_i g cap ht
      obtain ⟨t', args'⟩ := d'
      have htr := hd.t
      rw [ht] at htr
      simp only at htr
      cases htr with
      | fn _ _ cap' hcap =>
      have hda := hd.a
      simp only at hda
      have hargs : VRs σ (d.args.toList ++ cap.toList) (args' ++ cap').toList := by simpa using hda.append hcap
      have hb : ∃ r, bodyD E fns pur pls lim call g (d.args.toList ++ cap.toList) u H = some r := by
        cases hb : bodyD E fns pur pls lim call g (d.args.toList ++ cap.toList) u H with
        | none => rw [hb] at h'; cases h'
        | some r => exact ⟨r, rfl⟩
      obtain ⟨⟨en1, u1, H1⟩, hb⟩ := hb
      rw [hb] at h'
      have hfx : ∃ x, fns g = some x := by
        unfold bodyD at hb
        split at hb <;> try (cases hb; done)
        exact ⟨_, by assumption⟩
      obtain ⟨xg, hxg⟩ := hfx
      refine leaves_cons hrun' (callFunc_enter (hfns g xg hxg) _) ?_
      refine (bodyD_sound E hfns hm hpur hcall hpls hb (R := fun e2 H2 u2 => e2 = en1 ∧ H2 = H1 ∧ u2 = u1) ⟨rfl, rfl, rfl⟩ hr hargs hu).mono ?_
      rintro e2' u2' w2 ⟨σ2, e2, H2, u2, hle2, hr2, he2, hu2, rfl, rfl, rfl⟩
      cases he2 with
      | returned v v' hv => exact ih _ _ _ _ h' hR σ0 σ2 w2 a' l' _ (hle.trans hle2) hr2 (ha.mono hle2) (hs.mono hle2) hu2.settle
      | panicked c c' hc => exact ih _ _ _ _ h' hR σ0 σ2 w2 a' l' _ (hle.trans hle2) hr2 (ha.mono hle2) (hs.mono hle2) (hu2.raised hc)

theorem callOf_sound (E : Env P) {fns : FnT} (hfns : FnsOk P fns) (hm : P.follows .mixedOrders = true) {pur : PureF} (hpur : PureOk P pur) {pls : FuncId → Plans} (hpls : PlansOk fns pls) (lim : Nat) :
    ∀ n, CallSound P (callOf E fns pur pls lim n) := by
  intro n
  induction n with
  | zero => intro g args H en H' h; cases h
  | succ n ih =>
    intro g args H en H' h R hR σ w args' hr hargs
    unfold callOf at h
    split at h
    · rename_i v hv
      cases h
      exact hpur _ _ _ hv H R hR σ w args' hr hargs
    split at h <;> try (cases h; done)
    rename_i x hx
    split at h <;> try (cases h; done)
    rename_i hn
    obtain ⟨fn, h1, h2, h3, h4, _⟩ := (hfns g x hx).ex
    refine calls_of_wp_defers h1 h2 ?_
    rw [h3]
    have go : ∀ ex e H1, exec E fns pur (callOf E fns pur pls lim n) (pls g) lim x.code (entryE args x.ntmps) H = some (ex, e, H1) →
        (∀ u, (ex = .normal ∨ ex = .ret) ∧ u = .returning ∨ (∃ ch, ex = .panic ch ∧ u = .panicking ch) → leave E fns pur pls lim (callOf E fns pur pls lim n) x e e.defers u H1 = some (en, H')) →
        (ex = .normal ∨ ex = .ret ∨ ∃ ch, ex = .panic ch) →
        x.code.wp P (bodyPostD P fn (LiftE P σ R)) { tmps := args' ++ Array.replicate (x.ntmps - args'.size) undef, defers := [] } w := by
      intro ex e H1 hex hl hx2
      have key := exec_sound E hfns hm hpur ih _ _ _ _ _ _ _ (hpls g x hx) hex (fun ex2 a2 H2 => ex2 = ex ∧ a2 = e.to ∧ H2 = H1) ⟨rfl, rfl, rfl⟩
      rw [entryE_to] at key
      refine wp_mono (key σ w _ hr (entry_AR hargs hn)) ?_
      rintro ex' a' w' ⟨σ', ex2, a2, H2, hle, hr', ha, he, rfl, rfl, rfl⟩
      cases he with
      | normal => exact leave_sound E hfns hm hpur ih hpls h4 _ _ _ _ _ (hl .returning (.inl ⟨.inl rfl, rfl⟩)) hR σ σ' w' a' _ _ hle hr' ha ha.defers .returning
      | ret => exact leave_sound E hfns hm hpur ih hpls h4 _ _ _ _ _ (hl .returning (.inl ⟨.inr rfl, rfl⟩)) hR σ σ' w' a' _ _ hle hr' ha ha.defers .returning
      | panic c c' hc => exact leave_sound E hfns hm hpur ih hpls h4 _ _ _ _ _ (hl (.panicking c) (.inr ⟨c, rfl, rfl⟩)) hR σ σ' w' a' _ _ hle hr' ha ha.defers (.panicking _ _ hc)
      | exit id => rcases hx2 with h | h | ⟨_, h⟩ <;> cases h
      | goto l => rcases hx2 with h | h | ⟨_, h⟩ <;> cases h
    split at h <;> try (cases h; done)
    · rename_i e H1 hex
      refine go _ _ _ hex (fun u hu => ?_) (.inl rfl)
      rcases hu with ⟨_, rfl⟩ | ⟨ch, h, _⟩
      · exact h
      · cases h
    · rename_i e H1 hex
      refine go _ _ _ hex (fun u hu => ?_) (.inr (.inl rfl))
      rcases hu with ⟨_, rfl⟩ | ⟨ch, h, _⟩
      · exact h
      · cases h
    · rename_i ch e H1 hex
      refine go _ _ _ hex (fun u hu => ?_) (.inr (.inr ⟨ch, rfl⟩))
      rcases hu with ⟨h, _⟩ | ⟨ch', h, rfl⟩
      · rcases h with h | h <;> cases h
      · cases h; exact h

end Go.Am
