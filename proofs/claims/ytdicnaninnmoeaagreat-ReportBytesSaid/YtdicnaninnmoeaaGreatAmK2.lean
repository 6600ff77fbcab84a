/- Part of the proof: an abstract machine of our own over the model; no condition. -/
import Derived.Test.YtdicnaninnmoeaaGreatAmK
set_option linter.unusedSectionVars false
set_option linter.unusedSimpArgs false
set_option linter.unusedVariables false
set_option linter.unnecessarySimpa false
/- The abstract machine, part K2: operations that lay or write memory, all. -/
namespace Go.Am
open Go
variable [F : Fr]

variable {P : Program} {σ : Sig} {H : AH} {w : World}

/-- An operation that lays or writes memory. -/
def opE (E : Env P) (a : AAct) (H : AH) (o : Oper) : Option (Value × AH) :=
  match o.op with
  | .alloc t => aAlloc E.ty H t
  | .box t x => (ev a x).bind fun v => aBox E.ty H t v
  | .buildSlice t n parts => (evParts a parts.toList).bind fun ps => aBuildSlice E.ty H t n ps.toArray
  | .store t p x => (ev a p).bind fun u => (ev a x).bind fun v => (aStore E.ty H t u v).map fun H' => (undef, H')
  | .makeMap _ none => some (.map (some H.next), H.push (.map []))
  | .makeSlice t l c => (ev a l).bind fun u => (ev a c).bind fun v => aMakeSlice E.ty H t u v
  | .convert src dst x => (ev a x).bind fun u => aBytes E.ty H src dst u
  | .call c =>
    match c.callee, c.argTypes.toList with
    | .value (.func f), _ =>
      match E.ext f with
      | some (.makeNoZero t) => (evs a c.args.toList).bind fun vs => match vs with
        | [.int .i64 (.ofNat n)] => aNoZero E.ty H t n
        | _ => none
      | _ => none
    | .builtin .append, [t, t1] => (evs a c.args.toList).bind fun vs => match vs with
      | [s, x] => aAppend E.ty H t t1 s x
      | _ => none
    | .builtin .copy, [t, _] => (evs a c.args.toList).bind fun vs => match vs with
      | [d, x] => aCopy E.ty H t d x
      | _ => none
    | _, _ => none
  | _ => none

theorem GV.value {v : Value} {H' : AH} {s : Sem Value} (h : GV P σ H' v (s.run P w)) : ∃ σ' rv w', Le σ σ' ∧ HR P σ' H' w' ∧ VR σ' v rv ∧
    ((do pure (.value (← s))) : Sem Next).run P w = .ok (.value rv) w' := by
  obtain ⟨σ', rv, w', hrun, hle, hr, hv⟩ := h
  exact ⟨σ', rv, w', hle, hr, hv, run_value hrun⟩

theorem opE_sound (E : Env P) {a : AAct} {a' : Act} {o : Oper} {v : Value} {H' : AH} (hr : HR P σ H w) (ha : AR σ a a') (h : opE E a H o = some (v, H')) :
    ∃ σ' rv w', Le σ σ' ∧ HR P σ' H' w' ∧ VR σ' v rv ∧
      ((execOp a'.eval o).run P w = .ok (.value rv) w' ∨ ((execOp a'.eval o).run P w = .ok .skip w' ∧ rv = undef)) := by
  have fin : ∀ {v : Value} {H' : AH} {s : Sem Value}, GV P σ H' v (s.run P w) → (execOp a'.eval o = (do pure (.value (← s)))) → ∃ σ' rv w', Le σ σ' ∧ HR P σ' H' w' ∧ VR σ' v rv ∧
      ((execOp a'.eval o).run P w = .ok (.value rv) w' ∨ ((execOp a'.eval o).run P w = .ok .skip w' ∧ rv = undef)) := by
    intro v H' s h e
    obtain ⟨σ', rv, w', hle, hr, hv, hrun⟩ := h.value
    exact ⟨σ', rv, w', hle, hr, hv, .inl (by rw [e]; exact hrun)⟩
  unfold opE at h
  split at h <;> try (cases h; done)
  · rename_i t ho
    exact fin (aAlloc_sound E.ok hr h) (by simp only [execOp, ho])
  · rename_i t x ho
    rw [Option.bind_eq_some_iff] at h
    obtain ⟨u, hu, h⟩ := h
    exact fin (aBox_sound E.ok hr (ev_VR ha hu) h) (by simp only [execOp, ho])
  · rename_i t n parts ho
    rw [Option.bind_eq_some_iff] at h
    obtain ⟨ps, hps, h⟩ := h
    exact fin (aBuildSlice_sound (parts' := parts.map fun p => (p.1, a'.eval p.2)) E.ok hr (by simpa using evParts_PRs ha hps) h) (by simp only [execOp, ho])
  · rename_i t p x ho
    rw [Option.bind_eq_some_iff] at h
    obtain ⟨u, hu, h⟩ := h
    rw [Option.bind_eq_some_iff] at h
    obtain ⟨u2, hu2, h⟩ := h
    rw [Option.map_eq_some_iff] at h
    obtain ⟨H2, hst, h⟩ := h
    cases h
    obtain ⟨w', hrun, hr'⟩ := aStore_sound E.ok hr (ev_VR ha hu) (ev_VR ha hu2) hst
    exact ⟨σ, undef, w', Le.refl _, hr', .undef, .inr ⟨by simp [execOp, ho, hrun], rfl⟩⟩
  · rename_i t ho
    cases h
    obtain ⟨h1, h2⟩ := hr.new (.map []) (.map #[] 0) 0 0 .nil
    refine ⟨_, .map (some w.heap.size), grow w (.map #[] 0), h2, h1, .map _ ⟨w.heap.size, 0, 0, 0⟩ (by simp [Sig.ext]), .inl ?_⟩
    simp [execOp, ho, Instr.makeMap, grow]
  · rename_i t l c ho
    rw [Option.bind_eq_some_iff] at h
    obtain ⟨u, hu, h⟩ := h
    rw [Option.bind_eq_some_iff] at h
    obtain ⟨u2, hu2, h⟩ := h
    exact fin (aMakeSlice_sound E.ok hr (ev_VR ha hu) (ev_VR ha hu2) h) (by simp only [execOp, ho])
  · rename_i src dst x ho
    rw [Option.bind_eq_some_iff] at h
    obtain ⟨u, hu, h⟩ := h
    exact fin (aBytes_sound E.ok hr (ev_VR ha hu) h) (by simp only [execOp, ho])
  · rename_i c ho
    have hmap : ∀ l, c.args.toList.map a'.eval = l → c.args.map a'.eval = l.toArray := by
      intro l hl
      apply Array.ext'
      simpa using hl
    split at h <;> try (cases h; done)
    · rename_i x1 x2 f hc
      split at h <;> try (cases h; done)
      rename_i t hext
      rw [Option.bind_eq_some_iff] at h
      obtain ⟨vs, hvs, h⟩ := h
      split at h <;> try (cases h; done)
      rename_i n
      have hargs := evs_VRs ha hvs
      obtain ⟨x', hl, hx⟩ := hargs.one
      cases hx
      obtain ⟨σ', rv, w', hrun, hle, hr', hv⟩ := aNoZero_sound (ps := #[]) E.ok hr h
      refine ⟨σ', rv, w', hle, hr', hv, .inl ?_⟩
      simp only [execOp, ho, resolve, hc, Act.eval, Deferred.ofValue, Sem.run_bind, Sem.run_pure, Result.andThen_ok, invoke]
      rw [hmap _ hl]
      simp only [List.append_toArray, List.nil_append, List.append_nil]
      rw [E.hext f _ hext]
      simp only [extRun]
      rw [show Int.ofNat n = (n : Int) from rfl, hrun]
      rfl
    · rename_i t t1 hc ht
      have e1 : c.argTypes = #[t, t1] := by apply Array.ext'; simpa using ht
      rw [Option.bind_eq_some_iff] at h
      obtain ⟨vs, hvs, h⟩ := h
      split at h <;> try (cases h; done)
      rename_i s x
      obtain ⟨s', x', hl, hs, hx⟩ := (evs_VRs ha hvs).two
      obtain ⟨σ', rv, w', hrun, hle, hr', hv⟩ := aAppend_sound (rt := o.type) E.ok hr hs hx h
      refine ⟨σ', rv, w', hle, hr', hv, .inl ?_⟩
      simp only [execOp, ho]
      refine builtin_value hc ?_ hrun
      intro k
      rw [hmap _ hl, e1]
      rfl
    · rename_i t t1 hc ht
      have e1 : c.argTypes = #[t, t1] := by apply Array.ext'; simpa using ht
      rw [Option.bind_eq_some_iff] at h
      obtain ⟨vs, hvs, h⟩ := h
      split at h <;> try (cases h; done)
      rename_i s x
      obtain ⟨s', x', hl, hs, hx⟩ := (evs_VRs ha hvs).two
      obtain ⟨σ', rv, w', hrun, hle, hr', hv⟩ := aCopy_sound (rt := o.type) (t1 := t1) E.ok hr hs hx h
      refine ⟨σ', rv, w', hle, hr', hv, .inl ?_⟩
      simp only [execOp, ho]
      refine builtin_value hc ?_ hrun
      intro k
      rw [hmap _ hl, e1]
      rfl

end Go.Am
