/- Part of the proof: an abstract machine of our own over the model; no condition. -/
import Derived.Test.YtdicnaninnmoeaaGreatAmN
set_option linter.unusedSectionVars false
set_option linter.unusedSimpArgs false
set_option linter.unusedVariables false
set_option linter.unnecessarySimpa false
/- The abstract machine, part N2: regions that draw their order, the rule. -/
namespace Go.Am
open Go
variable [F : Fr]

variable {P : Program} {σ : Sig} {H : AH} {w : World}

theorem DInv.mono {ops : Array Oper} {rd : List Nat} {listed : Array Bool} {s : Stage} {rest : List Stage} {σ σ' : Sig} (hle : Le σ σ') {a : AAct} {a' : Act}
    (h : DInv ops rd listed s rest σ a a') : DInv ops rd listed s rest σ' a a' :=
  ⟨h.size, h.n, h.defers.mono hle, h.futU, h.cover, h.closed, fun t v e hl => let ⟨v', e', hv⟩ := h.slots t v e hl; ⟨v', e', hv.mono hle⟩⟩

/-- Behind what was done a new stage begins. -/
theorem DInv.next {ops : Array Oper} {rd : List Nat} {listed : Array Bool} {s s' : Stage} {rest : List Stage} {a a1 : AAct} {a' : Act} {i : Nat}
    (hf : PFacts ops rd) (hinv : DInv ops rd listed s (s' :: rest) σ a a') (hs : s.eff = some i)
    (hpend : ∀ k ∈ s.new ++ s.again, k ∈ s'.again ∨ k ∈ anyPreds ops i) (hnf : i ∉ fut (s' :: rest)) {o : Oper} (ho : ops[i]? = some o) (hi : i < ops.size)
    (hp : ∀ p ∈ anyPreds ops i, listed.getD p true = true) {v v' : Value} (hd : dstOk a o.dst = true) (hv : VR σ v v') (hrd : ∀ j ∈ s'.new, j ∈ rd)
    (hu : Upd ops s'.new (a.put o.dst v) a1) : DInv ops rd (listed.setIfInBounds i true) s' rest σ a1 (a'.put o.dst v') := by
  obtain ⟨hu1, hu2, hu3⟩ := hu
  have hfut : fut (s' :: rest) = s'.new ++ effL s'.eff ++ fut rest := rfl
  have hputn : (a.put o.dst v).n = a.n := by cases hdd : o.dst <;> rfl
  have hputd : (a.put o.dst v).defers = a.defers := by cases hdd : o.dst <;> rfl
  refine ⟨by simpa using hinv.size, ?_, ?_, fun k hk hl => ?_, fun k hk => ?_, fun k hk hl p hpp => ?_, fun t u e hl => ?_⟩
  · have := hinv.n
    rw [hu1, hputn]
    cases hdd : o.dst <;> simpa [Act.put] using this
  · have := hinv.defers
    rw [hu2, hputd]
    cases hdd : o.dst <;> simpa [Act.put] using this
  · have hkf : k ∈ fut (s' :: rest) := by
      rw [hfut]
      simp only [List.mem_append] at hk ⊢
      rcases hk with h | h
      · exact .inl (.inr h)
      · exact .inr h
    have hne : k ≠ i := fun e => hnf (e ▸ hkf)
    exact hinv.futU k (List.mem_append_right _ hkf) (getD_set hl hne)
  · rcases hinv.cover k hk with h | h | h
    · exact .inl (getD_set_mono h)
    · rcases hpend k h with h | h
      · exact .inr (.inl (List.mem_append_right _ h))
      · exact .inl (getD_set_mono (hp k h))
    · rw [hs] at h
      simp only [effL, List.mem_append, List.mem_singleton] at h
      rcases h with h | h
      · subst h; exact .inl getD_set_self
      · rw [hfut] at h
        simp only [List.mem_append] at h ⊢
        rcases h with (h | h) | h
        · exact .inr (.inl (.inl h))
        · exact .inr (.inr (.inl h))
        · exact .inr (.inr (.inr h))
  · by_cases hki : k = i
    · subst hki; exact getD_set_mono (hp p hpp)
    · exact getD_set_mono (hinv.closed k hk (getD_set hl hki) p hpp)
  · -- not a slot of what is read first here
    have hnew : ∀ j ∈ s'.new, dstAt ops j ≠ some t := by
      intro j hj hjd
      have h1 := hl j (hrd j hj) hjd
      have hjlt : j < ops.size := by
        rcases Nat.lt_or_ge j ops.size with h | h
        · exact h
        · simp [dstAt, Array.getElem?_eq_none h] at hjd
      have hjf : j ∈ fut (s' :: rest) := by rw [hfut]; simp [hj]
      have hne : j ≠ i := fun e => hnf (e ▸ hjf)
      have := hinv.futU j (List.mem_append_right _ hjf) (getD_set h1 hne)
      omega
    rw [hu3 t hnew] at e
    by_cases hdt : o.dst = some t
    · rw [hdt] at hd e
      simp [dstOk] at hd
      simp [AAct.put] at e
      subst e
      refine ⟨v', ?_, hv⟩
      rw [hdt]
      simp [Act.put, Array.getElem?_setIfInBounds, hinv.n, hd]
    · have e2 : a.tmps t = some u := by
        cases hdd : o.dst with
        | none => simpa [AAct.put, hdd] using e
        | some d =>
          have : ¬ t = d := fun e => hdt (by rw [hdd, e])
          simpa [AAct.put, hdd, this] using e
      obtain ⟨u', e', hu⟩ := hinv.slots t u e2 fun j hj hjd => by
        by_cases hji : j = i
        · subst hji
          exfalso
          apply hdt
          simpa [dstAt, ho] using hjd
        · exact getD_set (hl j hj hjd) hji
      refine ⟨u', ?_, hu⟩
      cases hdd : o.dst with
      | none => simpa [Act.put] using e'
      | some d =>
        have : d ≠ t := fun e => hdt (e ▸ hdd)
        simpa [Act.put, Array.getElem?_setIfInBounds_ne this] using e'

def unl (ops : Array Oper) (listed : Array Bool) : Nat := ((List.range ops.size).filter fun i => !listed.getD i true).length

theorem filter_le {α : Type} {p q : α → Bool} : ∀ (l : List α), (∀ x ∈ l, q x = true → p x = true) → (l.filter q).length ≤ (l.filter p).length
  | [], _ => Nat.le_refl _
  | x :: l, h => by
    have ih := filter_le l fun y hy => h y (by simp [hy])
    have hx := h x (by simp)
    simp only [List.filter_cons]
    cases hq : q x with
    | true => rw [hx hq]; simp; exact ih
    | false =>
      cases p x with
      | true => simp; omega
      | false => simpa using ih

theorem filter_lt {α : Type} {p q : α → Bool} : ∀ (l : List α), (∀ x ∈ l, q x = true → p x = true) → (∃ x ∈ l, p x = true ∧ q x = false) → (l.filter q).length < (l.filter p).length
  | [], _, ⟨x, hx, _⟩ => by cases hx
  | x :: l, h, ⟨y, hy, hp, hq⟩ => by
    have hx := h x (by simp)
    have hl := fun z (hz : z ∈ l) => h z (by simp [hz])
    simp only [List.filter_cons]
    by_cases hyx : y = x
    · subst hyx
      rw [hp, hq]
      have := filter_le l hl
      simp
      omega
    · have hyl : y ∈ l := by
        cases hy with
        | head => exact absurd rfl hyx
        | tail _ h => exact h
      have ih := filter_lt l hl ⟨y, hyl, hp, hq⟩
      cases hqx : q x with
      | true => rw [hx hqx]; simp; exact ih
      | false =>
        cases p x with
        | true => simp; omega
        | false => simpa using ih

theorem unl_set {ops : Array Oper} {listed : Array Bool} {i : Nat} (hi : i < ops.size) (h : listed.getD i true = false) {f : Nat} (hl : unl ops listed ≤ f + 1) :
    unl ops (listed.setIfInBounds i true) ≤ f := by
  have : unl ops (listed.setIfInBounds i true) < unl ops listed := by
    unfold unl
    refine filter_lt _ (fun x _ hx => ?_) ⟨i, by simpa using hi, by simp [h], by simp [getD_set_self]⟩
    simp only [Bool.not_eq_true'] at hx ⊢
    cases hc : listed.getD x true with
    | false => rfl
    | true => rw [getD_set_mono hc] at hx; cases hx
  omega

theorem all_listed {ops : Array Oper} {rd : List Nat} (hf : PFacts ops rd) {listed : Array Bool} (hs : listed.size = ops.size) (h : Region.ready .any ops listed = []) :
    ∀ i, listed.getD i true = true := by
  intro i
  induction i using Nat.strongRecOn with
  | _ i ih =>
    rcases Nat.lt_or_ge i ops.size with hlt | hge
    · cases hl : listed.getD i true with
      | true => rfl
      | false =>
        exfalso
        have : i ∈ Region.ready .any ops listed := by
          unfold Region.ready
          rw [List.mem_filter]
          refine ⟨by simpa using hlt, ?_⟩
          have ho : ops[i]? = some ops[i] := by simp [hlt]
          simp only [hl, Bool.not_false, Bool.true_and, ho, Option.map_some, Option.getD_some, Array.all_eq_true', Bool.or_eq_true, Bool.not_eq_true']
          intro e he
          cases hb : Region.binds .any e with
          | false => exact .inl rfl
          | true =>
            right
            have hp : e.on ∈ anyPreds ops i := by
              unfold anyPreds
              rw [ho]
              simp only [List.mem_map, List.mem_filter]
              exact ⟨e, ⟨by simpa using he, hb⟩, rfl⟩
            have hlt2 := hf.back i hlt _ hp
            have h1 := ih e.on hlt2
            simp only [Array.getD_eq_getD_getElem?] at h1 ⊢
            have : e.on < listed.size := by omega
            simp only [Array.getElem?_eq_getElem this, Option.getD_some] at h1 ⊢
            exact h1
        rw [h] at this
        cases this
    · simp [Array.getD_eq_getD_getElem?, Array.getElem?_eq_none (show listed.size ≤ i by omega)]

theorem draw_main (E : Env P) {fns : FnT} (hfns : FnsOk P fns) {ops : Array Oper} {Q : Exit → AAct → AH → Prop} {rd : List Nat} (hf : PFacts ops rd) {σ : Sig} :
    ∀ (fuel : Nat) (listed : Array Bool) (s : Stage) (rest : List Stage) (a : AAct) (H : AH) (σ' : Sig) (w : World) (a' : Act), Le σ σ' → DInv ops rd listed s rest σ' a a' → HR P σ' H w →
      okFrom ops (s :: rest) = true → (∀ i ∈ s.new ++ s.again, Chk E fns ops a H i) →
      (match s.eff with
        | none => Q .normal a H
        | some e => AEff E fns ops Q e (fun a2 H2 => RunPlan E fns ops Q rest a2 H2) a H) →
      (∀ s' ∈ rest, ∀ j ∈ s'.new, j ∈ rd) → unl ops listed ≤ fuel → wpAny P .any ops (Lift P σ Q) fuel listed a' w := by
  -- the end
  have fin : ∀ (listed : Array Bool) (s : Stage) (rest : List Stage) (a : AAct) (H : AH) (σ' : Sig) (w : World) (a' : Act), Le σ σ' → DInv ops rd listed s rest σ' a a' → HR P σ' H w →
      (match s.eff with
        | none => Q .normal a H
        | some e => AEff E fns ops Q e (fun a2 H2 => RunPlan E fns ops Q rest a2 H2) a H) →
      (∀ i, listed.getD i true = true) → Lift P σ Q .normal a' w := by
    intro listed s rest a H σ' w a' hle hinv hr hq hall
    cases he : s.eff with
    | none =>
      rw [he] at hq
      exact ⟨σ', .normal, a, H, hle, hr, ⟨hinv.n, fun t v e => hinv.slots t v e fun j _ _ => hall j, hinv.defers⟩, .normal, hq⟩
    | some e =>
      exfalso
      rw [he] at hq
      have h1 := hinv.futU e (by rw [he]; simp [effL]) (hall e)
      simp only [AEff] at hq
      rw [Array.getElem?_eq_none h1] at hq
      exact hq
  intro fuel
  induction fuel with
  | zero =>
    intro listed s rest a H σ' w a' hle hinv hr hok hchk hq hrd hu
    have hall : ∀ i, listed.getD i true = true := by
      intro i
      cases hl : listed.getD i true with
      | true => rfl
      | false =>
        exfalso
        have hi : i < ops.size := by
          rcases Nat.lt_or_ge i ops.size with h | h
          · exact h
          · have := hinv.size
            simp [Array.getD_eq_getD_getElem?, Array.getElem?_eq_none (show listed.size ≤ i by omega)] at hl
        have : i ∈ (List.range ops.size).filter fun i => !listed.getD i true := by
          rw [List.mem_filter]
          exact ⟨by simpa using hi, by simp [hl]⟩
        have h0 : unl ops listed = 0 := by omega
        unfold unl at h0
        rw [List.length_eq_zero_iff] at h0
        rw [h0] at this
        cases this
    refine ⟨?_, fin listed s rest a H σ' w a' hle hinv hr hq hall⟩
    cases hrd' : Region.ready .any ops listed with
    | nil => rfl
    | cons i l =>
      have := ready_mem (ops := ops) (listed := listed) (i := i) (by rw [hrd']; simp)
      rw [hall i] at this
      cases this.2.1
  | succ fuel ih =>
    intro listed s rest a H σ' w a' hle hinv hr hok hchk hq hrd hu
    refine ⟨fun hn => fin listed s rest a H σ' w a' hle hinv hr hq (all_listed hf hinv.size hn), fun i hi => ?_⟩
    obtain ⟨hlt, hun, hpr⟩ := ready_mem hi
    have hp : ∀ p ∈ anyPreds ops i, listed.getD p true = true := fun p h => getD_both (hpr p h)
    obtain ⟨o, ho⟩ : ∃ o, ops[i]? = some o := ⟨ops[i], by simp [hlt]⟩
    have hok' := hok
    unfold okFrom at hok'
    simp only [Bool.and_eq_true, List.all_eq_true] at hok'
    obtain ⟨hbl, hok2⟩ := hok'
    -- what comes later is not ready
    have hnf : i ∉ fut rest := by
      intro hif
      have := hbl i hif
      rw [List.any_eq_true] at this
      obtain ⟨p, hpp, hpc⟩ := this
      have hmem : p ∈ effL s.eff ++ fut rest := by simpa using hpc
      have h1 := hinv.futU p hmem (hp p hpp)
      have h2 := hf.back i hlt p hpp
      omega
    have har := hinv.restr hf ho hlt hp
    have hu' := unl_set hlt hun hu
    unfold wpOp
    simp only [ho]
    have hwant : ∀ b, want ops o a = some b → Region.wanted o (yielded ops a'.tmps) = b := fun b hb => want_AR har (by rw [want_only]; exact hb)
    rcases hinv.cover i hlt with h | h | h
    · rw [hun] at h; cases h
    · -- a read that waits
      have hne : i ∉ effL s.eff ++ fut rest := by
        intro hmem
        simp only [List.mem_append] at hmem
        rcases hmem with hmem | hmem
        · cases he : s.eff with
          | none => rw [he] at hmem; cases hmem
          | some e =>
            rw [he] at hmem hok2
            simp only [effL, List.mem_singleton] at hmem
            subst hmem
            cases hrest : rest with
            | nil => rw [hrest] at hok2; cases hok2
            | cons s' r =>
              rw [hrest] at hok2
              simp only [Bool.and_eq_true, Bool.not_eq_true'] at hok2
              have := hok2.1.1
              have hc : (s.new ++ s.again).contains i = true := by simpa using h
              rw [hc] at this
              cases this
        · exact hnf hmem
      have hc := hchk i h
      simp only [Chk, ho] at hc
      obtain ⟨hd, hc⟩ := hc
      cases hwt : want ops o a with
      | none => rw [hwt] at hc; exact hc.elim
      | some b =>
        rw [hwt] at hc
        rw [hwant b hwt]
        cases b with
        | true =>
          obtain ⟨v, hv, hav⟩ := hc
          simp only [if_true]
          refine .inl ?_
          unfold Oper.wp
          rcases hv with hv | ⟨g, args, hv, hpure⟩
          · have hv2 : opR E (a.only (o.looksAt ops)) H o = some v := by rw [opR_congr E (ev_only a)]; exact hv
            obtain ⟨rv, hrun, hvv⟩ := opR_sound E hr har hv2
            rw [hrun]
            exact ih _ _ _ _ _ _ _ _ hle (hinv.listRead hf ho hlt hne hp hd hvv hav) hr hok hchk hq hrd hu'
          · have hv2 : opC fns (a.only (o.looksAt ops)) o = some (g, args) := by rw [opC_congr (ev_only a)]; exact hv
            obtain ⟨args', hargs, hrun⟩ := opC_sound hfns hv2 σ' w a' har
            rw [hrun]
            show Calls P g args' w _
            refine (hpure H (fun e H2 => e = .returned v ∧ H2 = H) ⟨rfl, rfl⟩ σ' w args' hr hargs).mono ?_
            rintro e' w' ⟨σ2, e, H2, hle2, hr2, hee, rfl, rfl⟩
            cases hee with
            | returned _ v' hvv => exact ih _ _ _ _ _ _ _ _ (hle.trans hle2) ((hinv.mono hle2).listRead hf ho hlt hne hp hd hvv hav) hr2 hok hchk hq hrd hu'
        | false =>
          simp only [Bool.false_eq_true, if_false]
          exact ih _ _ _ _ _ _ _ _ hle (hinv.listRead hf ho hlt hne hp hd .undef hc) hr hok hchk hq hrd hu'
    · -- what is done here
      have he : s.eff = some i := by
        simp only [List.mem_append] at h
        rcases h with h | h
        · cases he : s.eff with
          | none => rw [he] at h; cases h
          | some e => rw [he] at h; simp only [effL, List.mem_singleton] at h; rw [h]
        · exact absurd h hnf
      rw [he] at hq hok2
      cases hrest : rest with
      | nil => rw [hrest] at hok2; cases hok2
      | cons s' r =>
        subst hrest
        simp only [Bool.and_eq_true, Bool.not_eq_true', List.all_eq_true] at hok2
        obtain ⟨⟨_, hpend⟩, hokr⟩ := hok2
        have hpend' : ∀ k ∈ s.new ++ s.again, k ∈ s'.again ∨ k ∈ anyPreds ops i := by
          intro k hk
          have := hpend k hk
          simp only [Bool.or_eq_true] at this
          simpa using this
        simp only [AEff, ho] at hq
        obtain ⟨hd, hq⟩ := hq
        -- the next stage
        have go : ∀ (σ2 : Sig) (w2 : World) (v v' : Value) (H2 : AH), Le σ' σ2 → HR P σ2 H2 w2 → VR σ2 v v' → RunPlan E fns ops Q (s' :: r) (a.put o.dst v) H2 →
            wpAny P .any ops (Lift P σ Q) fuel (listed.setIfInBounds i true) (a'.put o.dst v') w2 := by
          intro σ2 w2 v v' H2 hle2 hr2 hv hplan
          obtain ⟨a1, hupd, hchk1, hq1⟩ := hplan
          exact ih _ _ _ _ _ _ _ _ (hle.trans hle2) ((hinv.mono hle2).next hf he hpend' hnf ho hlt hp hd hv (hrd s' (by simp)) hupd) hr2 hokr hchk1 hq1
            (fun s2 hs2 => hrd s2 (by simp [hs2])) hu'
        cases hwt : want ops o a with
        | none => rw [hwt] at hq; exact hq.elim
        | some b =>
          rw [hwt] at hq
          rw [hwant b hwt]
          cases b with
          | false =>
            simp only [Bool.false_eq_true, if_false]
            exact go σ' w undef undef H (Le.refl _) hr .undef hq
          | true =>
            simp only [if_true]
            refine .inl ?_
            unfold Oper.wp
            rcases hq with ⟨v, hv, hK⟩ | ⟨v, H2, hv, hK⟩ | ⟨g, args, hv, hK⟩
            · have hv2 : opR E (a.only (o.looksAt ops)) H o = some v := by rw [opR_congr E (ev_only a)]; exact hv
              obtain ⟨rv, hrun, hvv⟩ := opR_sound E hr har hv2
              rw [hrun]
              exact go σ' w v rv H (Le.refl _) hr hvv hK
            · have hv2 : opE E (a.only (o.looksAt ops)) H o = some (v, H2) := by rw [opE_congr E (ev_only a)]; exact hv
              obtain ⟨σ2, rv, w2, hle2, hr2, hvv, hrun⟩ := opE_sound E hr har hv2
              rcases hrun with hrun | ⟨hrun, rfl⟩
              · rw [hrun]; exact go σ2 w2 v rv H2 hle2 hr2 hvv hK
              · rw [hrun]; exact go σ2 w2 v undef H2 hle2 hr2 hvv hK
            · have hv2 : opC fns (a.only (o.looksAt ops)) o = some (g, args) := by rw [opC_congr (ev_only a)]; exact hv
              obtain ⟨args', hargs, hrun⟩ := opC_sound hfns hv2 σ' w a' har
              rw [hrun]
              show Calls P g args' w _
              refine (hK σ' w args' hr hargs).mono ?_
              rintro e' w' ⟨σ2, e, H2, hle2, hr2, hee, hR⟩
              cases hee with
              | returned v v' hvv => exact go σ2 w' v v' H2 hle2 hr2 hvv hR
              | panicked c c' hc => exact ⟨σ2, _, a.forget, H2, hle.trans hle2, hr2, ⟨hinv.n, fun t v e => (by simp [AAct.forget] at e), hinv.defers.mono hle2⟩, .panic c c' hc, hR⟩

theorem planOk_facts {ops : Array Oper} {pl : List Stage} (h : planOk ops pl = true) : okFrom ops pl = true ∧ (∀ i, i < ops.size → i ∈ fut pl) ∧ PFacts ops (readsOf pl) := by
  unfold planOk at h
  simp only [Bool.and_eq_true, List.all_eq_true] at h
  obtain ⟨⟨⟨h1, h2⟩, h3⟩, h4⟩ := h
  refine ⟨h1, fun i hi => by simpa using h2 i (by simpa using hi), ⟨fun i hi j hj d hd hl => ?_, fun i hi j hj d hd hne => ?_, fun i hi p hp => ?_⟩⟩
  · have := h4 i (by simpa using hi) j hj
    rw [hd] at this
    simp only [Bool.and_eq_true, Bool.or_eq_true, Bool.not_eq_true'] at this
    rcases this.1 with h | h
    · have hc : (looks ops i).contains d = true := by simpa using hl
      rw [hc] at h; cases h
    · simpa using h
  · have := h4 i (by simpa using hi) j hj
    rw [hd] at this
    simp only [Bool.and_eq_true, Bool.or_eq_true] at this
    rcases this.2 with h | h
    · exact absurd (by simpa using h) hne
    · simpa using h
  · have := h3 i (by simpa using hi) p hp
    simpa using this

theorem AWP_draw (E : Env P) {fns : FnT} (hfns : FnsOk P fns) (hm : P.follows .mixedOrders = true) {Q : Exit → AAct → AH → Prop} {id : Nat} {ops : Array Oper} {pl : List Stage} {a : AAct} {H : AH}
    (hok : planOk ops pl = true) (h : RunPlan E fns ops Q pl a H) : AWP P (.region id ops true) Q a H := by
  intro σ w a' hr ha
  refine wp_region_any hm ?_
  obtain ⟨h1, h2, hf⟩ := planOk_facts hok
  cases pl with
  | nil => exact h.elim
  | cons s rest =>
    obtain ⟨a1, ⟨hu1, hu2, hu3⟩, hchk, hq⟩ := h
    refine draw_main E hfns hf ops.size _ s rest a1 H σ _ a' (Le.refl _) ?_ (hr.congr rfl ⟨rfl, rfl, rfl⟩) h1 hchk hq ?_ ?_
    · have hun : ∀ i, i < ops.size → (Array.replicate ops.size false).getD i true = false := by
        intro i hi
        simp [Array.getD_eq_getD_getElem?, hi]
      refine ⟨by simp, by rw [hu1]; exact ha.n, by rw [hu2]; exact ha.defers, fun i _ hl => ?_, fun i hi => ?_, fun i hi hl => ?_, fun t v e hl => ?_⟩
      · rcases Nat.lt_or_ge i ops.size with hlt | hge
        · rw [hun i hlt] at hl; cases hl
        · exact hge
      · have := h2 i hi
        have hfut : fut (s :: rest) = s.new ++ effL s.eff ++ fut rest := rfl
        rw [hfut] at this
        simp only [List.mem_append] at this ⊢
        rcases this with (h | h) | h
        · exact .inr (.inl (.inl h))
        · exact .inr (.inr (.inl h))
        · exact .inr (.inr (.inr h))
      · rw [hun i hi] at hl; cases hl
      · have hnew : ∀ j ∈ s.new, dstAt ops j ≠ some t := by
          intro j hj hjd
          have hjlt : j < ops.size := by
            rcases Nat.lt_or_ge j ops.size with h | h
            · exact h
            · simp [dstAt, Array.getElem?_eq_none h] at hjd
          have := hl j (by simp [readsOf, hj]) hjd
          rw [hun j hjlt] at this; cases this
        rw [hu3 t hnew] at e
        exact ha.tmps t v e
    · intro s' hs' j hj
      simp only [readsOf, List.flatMap_cons, List.mem_append, List.mem_flatMap]
      exact .inr ⟨s', hs', hj⟩
    · unfold unl
      have := List.length_filter_le (fun i => !(Array.replicate ops.size false).getD i true) (List.range ops.size)
      simpa using this

end Go.Am
