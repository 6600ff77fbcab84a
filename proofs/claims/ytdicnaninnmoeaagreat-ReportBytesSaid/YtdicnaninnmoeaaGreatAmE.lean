/- Part of the proof: an abstract machine of our own over the model; no condition. -/
import Derived.Test.YtdicnaninnmoeaaGreatAmD
import Derived.Laws.Slices
set_option linter.unusedSectionVars false
set_option linter.unusedSimpArgs false
set_option linter.unusedVariables false
set_option linter.unnecessarySimpa false
/- The abstract machine, part E: places, slices, strings. -/
namespace Go.Am
open Go
variable [F : Fr]

variable {P : Program} {ty : TyT} {σ : Sig} {H : AH} {w : World}

def aFieldAddr (ty : TyT) (t : TypeId) (p : Value) (f : Nat) : Option Value :=
  match p with
  | .pointer (some ⟨b, o, none⟩) =>
    match ty t with
    | none => none
    | some x =>
      match x.desc with
      | .struct fields =>
        match fields[f]? with
        | none => none
        | some fd =>
          match ty fd.type with
          | none => none
          | some y => if y.size = 0 then none else some (.pointer (some ⟨b, o + fd.offset, none⟩))
      | _ => none
  | _ => none

theorem aFieldAddr_sound (ok : TyOk P ty) {t : TypeId} {p p' v : Value} {f : Nat} (hp : VR σ p p') (h : aFieldAddr ty t p f = some v) :
    ∃ rv, (Instr.fieldAt t p' f).run P w = .ok rv w ∧ VR σ v rv := by
  unfold aFieldAddr at h
  split at h <;> try (cases h; done)
  rename_i b o
  split at h <;> try (cases h; done)
  rename_i x hx
  split at h <;> try (cases h; done)
  rename_i fields hd
  split at h <;> try (cases h; done)
  rename_i fd hfd
  split at h <;> try (cases h; done)
  rename_i y hy
  split at h <;> try (cases h; done)
  rename_i hs
  cases h
  cases hp
  rename_i i hi
  have hu := run_underlying_ty ok hx w
  have hz := run_sizeOf_ty ok hy w
  have := VR.ptr b (o + fd.offset) i hi
  rw [← Nat.add_assoc] at this
  refine ⟨_, ?_, this⟩
  simp [Instr.fieldAt, hu, hd, hfd, Instr.sureAddr, fieldPlace, hz, hs, Addr.add_lit]

def intOf? : Value → Option Int
  | .int _ n => some n
  | _ => none

theorem intOf?_VR {v v' : Value} {n : Int} (h : VR σ v v') (e : intOf? v = some n) : ∃ k, v' = .int k n := by
  cases h <;> simp [intOf?] at e
  subst e; exact ⟨_, rfl⟩

def aIndexAddr (ty : TyT) (t : TypeId) (x ix : Value) : Option Value :=
  match ty t, intOf? ix with
  | some d, some i =>
    match d.desc, x with
    | .slice e, .slice (some ⟨b, o, none⟩) len _ =>
      match ty e with
      | none => none
      | some y => if 0 ≤ i ∧ i < len then some (.pointer (some ⟨b, o + i.toNat * y.size, none⟩)) else none
    | .array n e, .pointer (some ⟨b, o, none⟩) =>
      match ty e with
      | none => none
      | some y => if 0 ≤ i ∧ i < n then some (.pointer (some ⟨b, o + i.toNat * y.size, none⟩)) else none
    | _, _ => none
  | _, _ => none

theorem aIndexAddr_sound (ok : TyOk P ty) {t : TypeId} {x x' ix ix' v : Value} (hx : VR σ x x') (hi : VR σ ix ix') (h : aIndexAddr ty t x ix = some v) :
    ∃ rv, (Instr.indexAt t x' ix').run P w = .ok rv w ∧ VR σ v rv := by
  unfold aIndexAddr at h
  split at h <;> try (cases h; done)
  rename_i d i hd hii
  obtain ⟨k, rfl⟩ := intOf?_VR hi hii
  have hu := run_underlying_ty ok hd w
  split at h <;> try (cases h; done)
  · rename_i e b o len cap hde
    split at h <;> try (cases h; done)
    rename_i y hy
    split at h <;> try (cases h; done)
    rename_i hc
    cases h
    have hz := run_sizeOf_ty ok hy w
    cases hx with
    | slice _ _ _ _ cap' im hσ hcc hl hs =>
      have hr := VR.ptr (σ := σ) b (o + i.toNat * y.size) im hσ
      rw [← Nat.add_assoc] at hr
      refine ⟨_, ?_, hr⟩
      simp [Instr.indexAt, asIntOf, hu, hde, hc, hz, Addr.add_lit]
    | slice0 _ _ o' _ im hσ hcc => simp at hc; omega
  · rename_i n e b o hde
    split at h <;> try (cases h; done)
    rename_i y hy
    split at h <;> try (cases h; done)
    rename_i hc
    cases h
    have hz := run_sizeOf_ty ok hy w
    cases hx with
    | ptr _ _ im hσ =>
      have hr := VR.ptr (σ := σ) b (o + i.toNat * y.size) im hσ
      rw [← Nat.add_assoc] at hr
      refine ⟨_, ?_, hr⟩
      simp [Instr.indexAt, asIntOf, hu, hde, hc, hz, Addr.add_lit, Instr.sureAddr]

/-- A bound of a slice expression: none is a wrong one. -/
def bound (v : Option Value) (y dflt : Nat) : Option Nat :=
  match v with
  | none => some dflt
  | some v =>
    match intOf? v with
    | some i => if 0 ≤ i ∧ i ≤ y then some i.toNat else none
    | none => none

def okBlk (H : AH) (e : TypeId) : Option Addr → Bool
  | none => true
  | some ⟨b, _, none⟩ =>
    match H.get b with
    | some (.cells _ e') => e' == e
    | _ => false
  | _ => false

def aSlice (ty : TyT) (H : AH) (t : TypeId) (x : Value) (lo hi mx : Option Value) : Option Value :=
  match ty t with
  | none => none
  | some d =>
    match d.desc, x with
    | .string, .string s =>
      match mx with
      | some _ => none
      | none => (bound hi s.size s.size).bind fun h => (bound lo h 0).map fun l => .string (s.extract l h)
    | .slice e, .slice a len cap =>
      match ty e with
      | none => none
      | some y =>
        if mx.isSome ∧ hi.isNone then none else
        if okBlk H e a = false then none else
        (bound mx len cap).bind fun m => (bound hi (if mx.isSome then m else len) len).bind fun h => (bound lo h 0).map fun l =>
          .slice (a.map fun (a : Addr) => ⟨a.block, a.off + l * y.size, none⟩) (h - l) (if m = unk then unk else m - l)
    | _, _ => none

inductive OVR (σ : Sig) : Option Value → Option Value → Prop
  | none : OVR σ none none
  | some {v v' : Value} (h : VR σ v v') : OVR σ (some v) (some v')

theorem bound_run {v v' : Option Value} {y dflt n : Nat} (hv : OVR σ v v') (code : BoundsCode) (h : bound v y dflt = some n) :
    (v' = none ∧ n = dflt) ∨ ∃ k i, v' = some (.int k i) ∧ n = i.toNat ∧ 0 ≤ i ∧ i ≤ y := by
  cases hv with
  | none => simp [bound] at h; exact .inl ⟨rfl, h.symm⟩
  | some hv =>
    rename_i a a'
    simp only [bound] at h
    cases hi : intOf? a with
    | none => simp [hi] at h
    | some i =>
      simp only [hi] at h
      obtain ⟨k, rfl⟩ := intOf?_VR hv hi
      split at h <;> try (cases h; done)
      rename_i hc
      cases h
      exact .inr ⟨k, i, rfl, rfl, hc.1, hc.2⟩

theorem run_sliceBound' {k : IntKind} {i : Int} {y : Nat} {code : BoundsCode} (h0 : 0 ≤ i) (h1 : i ≤ y) :
    (Instr.sliceBound (.int k i) y code).run P w = .ok i.toNat w := run_sliceBound w k i y code h0 h1

theorem aSlice_sound (ok : TyOk P ty) (hr : HR P σ H w) {t : TypeId} {x x' v : Value} {lo lo' hi hi' mx mx' : Option Value} (hx : VR σ x x') (hlo : OVR σ lo lo')
    (hhi : OVR σ hi hi') (hmx : OVR σ mx mx') (h : aSlice ty H t x lo hi mx = some v) :
    ∃ rv, (Instr.sliceAt t x' lo' hi' mx').run P w = .ok rv w ∧ VR σ v rv := by
  unfold aSlice at h
  split at h <;> try (cases h; done)
  rename_i d hd
  have hu := run_underlying_ty ok hd w
  split at h <;> try (cases h; done)
  · rename_i s hde
    split at h <;> try (cases h; done)
    rw [Option.bind_eq_some_iff] at h
    obtain ⟨hh, h1, h⟩ := h
    rw [Option.map_eq_some_iff] at h
    obtain ⟨l, h2, rfl⟩ := h
    cases hx
    cases hmx
    refine ⟨.string (s.extract l hh), ?_, .string _⟩
    have a1 := bound_run hhi .index h1
    have a2 := bound_run hlo .index h2
    simp only [Instr.sliceAt, Sem.run_bind, hu, hde, Result.andThen_ok, Instr.slice]
    rcases a1 with ⟨rfl, rfl⟩ | ⟨k1, i1, rfl, rfl, p1, q1⟩ <;> rcases a2 with ⟨rfl, rfl⟩ | ⟨k2, i2, rfl, rfl, p2, q2⟩
    · simp [Instr.sliceBounds]
    · have r2 := fun code => run_sliceBound' (P := P) (w := w) (k := k2) (code := code) p2 q2
      simp [Instr.sliceBounds, r2]
    · have r1 := fun code => run_sliceBound' (P := P) (w := w) (k := k1) (code := code) p1 q1
      simp [Instr.sliceBounds, r1]
    · have r1 := fun code => run_sliceBound' (P := P) (w := w) (k := k1) (code := code) p1 q1
      have r2 := fun code => run_sliceBound' (P := P) (w := w) (k := k2) (code := code) p2 q2
      simp [Instr.sliceBounds, r1, r2]
  · rename_i e a len cap hde
    split at h <;> try (cases h; done)
    rename_i y hy
    split at h <;> try (cases h; done)
    rename_i hnn
    split at h <;> try (cases h; done)
    rename_i hblk
    rw [Option.bind_eq_some_iff] at h
    obtain ⟨m, h0, h⟩ := h
    rw [Option.bind_eq_some_iff] at h
    obtain ⟨hh, h1, h⟩ := h
    rw [Option.map_eq_some_iff] at h
    obtain ⟨l, h2, rfl⟩ := h
    have hz := run_sizeOf_ty ok hy w
    -- the real slice
    obtain ⟨ra, cap', rfl, hlc, hcc⟩ : ∃ ra cap', x' = .slice ra len cap' ∧ len ≤ cap' ∧ (cap = cap' ∨ cap = unk) := by
      cases hx with
      | snil => exact ⟨none, 0, rfl, Nat.le_refl _, .inl rfl⟩
      | slice b o _ _ cap' im hσ hc hl hs => exact ⟨_, cap', rfl, hl, hc⟩
      | slice0 b o o' _ im hσ hc => exact ⟨_, 0, rfl, Nat.le_refl _, hc⟩
    -- the bounds
    obtain ⟨m', hb, hhl, hm'⟩ : ∃ m', (Instr.sliceBounds true len cap' lo' hi' mx').run P w = .ok (l, hh, m') w ∧ (l ≤ hh ∧ hh ≤ len ∧ hh ≤ m') ∧
        ((m = unk ∧ m' ≤ cap') ∨ (m = m' ∧ m' ≤ cap')) := by
      have a0 := bound_run hmx .index h0
      have a1 := bound_run hhi .index h1
      have a2 := bound_run hlo .index h2
      rcases a0 with ⟨rfl, rfl⟩ | ⟨k0, i0, rfl, rfl, p0, q0⟩
      · cases hmx
        simp only [Option.isSome_none, Bool.false_eq_true, if_false] at a1
        refine ⟨cap', ?_⟩
        rcases a1 with ⟨rfl, rfl⟩ | ⟨k1, i1, rfl, rfl, p1, q1⟩
        · rcases a2 with ⟨rfl, rfl⟩ | ⟨k2, i2, rfl, rfl, p2, q2⟩
          · exact ⟨by simp [Instr.sliceBounds], ⟨Nat.zero_le _, Nat.le_refl _, hlc⟩, by rcases hcc with rfl | rfl <;> simp⟩
          · have r2 := fun code => run_sliceBound' (P := P) (w := w) (k := k2) (code := code) p2 q2
            exact ⟨by simp [Instr.sliceBounds, r2], ⟨by omega, by omega, by omega⟩, by rcases hcc with rfl | rfl <;> simp⟩
        · have q1' : i1 ≤ (cap' : Int) := by omega
          have r1 := fun code => run_sliceBound' (P := P) (w := w) (k := k1) (code := code) p1 q1'
          rcases a2 with ⟨rfl, rfl⟩ | ⟨k2, i2, rfl, rfl, p2, q2⟩
          · exact ⟨by simp [Instr.sliceBounds, r1], ⟨by omega, by omega, by omega⟩, by rcases hcc with rfl | rfl <;> simp⟩
          · have r2 := fun code => run_sliceBound' (P := P) (w := w) (k := k2) (code := code) p2 q2
            exact ⟨by simp [Instr.sliceBounds, r1, r2], ⟨by omega, by omega, by omega⟩, by rcases hcc with rfl | rfl <;> simp⟩
      · cases hmx
        simp only [Option.isSome_some, if_true] at a1
        have q0' : i0 ≤ (cap' : Int) := by omega
        have r0 := fun code => run_sliceBound' (P := P) (w := w) (k := k0) (code := code) p0 q0'
        rcases a1 with ⟨rfl, rfl⟩ | ⟨k1, i1, rfl, rfl, p1, q1⟩
        · cases hhi; simp at hnn
        · have q1' : i1 ≤ ((i0.toNat : Nat) : Int) := by omega
          have r1 := fun code => run_sliceBound' (P := P) (w := w) (k := k1) (code := code) p1 q1'
          refine ⟨i0.toNat, ?_⟩
          rcases a2 with ⟨rfl, rfl⟩ | ⟨k2, i2, rfl, rfl, p2, q2⟩
          · exact ⟨by simp [Instr.sliceBounds, r0, r1], ⟨by omega, by omega, by omega⟩, .inr ⟨rfl, by omega⟩⟩
          · have r2 := fun code => run_sliceBound' (P := P) (w := w) (k := k2) (code := code) p2 q2
            exact ⟨by simp [Instr.sliceBounds, r0, r1, r2], ⟨by omega, by omega, by omega⟩, .inr ⟨rfl, by omega⟩⟩
    have hrun : (Instr.sliceAt t (.slice ra len cap') lo' hi' mx').run P w = .ok (.slice (if m' = l then ra else ra.map (·.add (l * y.size))) (hh - l) (m' - l)) w := by
      simp [Instr.sliceAt, Instr.slice, hu, hde, hb, hz]
    refine ⟨_, hrun, ?_⟩
    cases hx with
    | snil =>
      obtain rfl : hh = 0 := by omega
      obtain rfl : l = 0 := by omega
      obtain rfl : m' = 0 := by rcases hm' with ⟨_, h⟩ | ⟨_, h⟩ <;> omega
      have : m = 0 := by
        rcases hm' with ⟨h, _⟩ | ⟨h, _⟩
        · exfalso
          subst h
          cases hmx with
          | none => simp [bound] at h0; exact absurd h0 (by decide)
          | some hv =>
            have := bound_run (.some hv) .index h0
            rcases this with ⟨e, _⟩ | ⟨k, i, _, e, p, q⟩
            · cases e
            · have : unk = 0 := by rw [e]; omega
              exact absurd this (by decide)
        · exact h
      subst this
      have hne : ¬ (0 : Nat) = unk := by decide
      simp [hne]
      exact .snil
    | slice b o _ _ cap' im hσ hc hl hs =>
      simp only [Option.map_some, Addr.add_lit]
      by_cases hml : m' = l
      · have : hh - l = 0 := by omega
        rw [this]
        simp only [hml, if_true, Nat.sub_self]
        refine .slice0 _ _ _ _ im hσ ?_
        rcases hm' with ⟨h, _⟩ | ⟨h, _⟩
        · right; simp [h]
        · by_cases hmu : m = unk
          · right; simp [hmu]
          · left; simp [hmu]; omega
      · simp only [hml, if_false]
        have hr := VR.slice (σ := σ) b (o + l * y.size) (hh - l) (if m = unk then unk else m - l) (m' - l) im hσ ?_ (by omega) ?_
        · rw [← Nat.add_assoc] at hr
          exact hr
        · rcases hm' with ⟨h, _⟩ | ⟨h, _⟩
          · right; simp [h]
          · by_cases hmu : m = unk
            · right; simp [hmu]
            · left; rw [if_neg hmu, h]
        · have hesz : im.esz = y.size := by
            simp only [okBlk] at hblk
            cases hg : H.get b with
            | none => simp [hg] at hblk
            | some bl =>
              cases bl with
              | map es => simp [hg] at hblk
              | ro cs e' => simp [hg] at hblk
              | cells cs e' =>
                simp [hg] at hblk
                subst hblk
                have hB := hr.at hg hσ
                cases ho : w.heap[im.blk]? with
                | none => rw [ho] at hB; exact hB.elim
                | some ob =>
                  rw [ho] at hB
                  cases ob <;> try exact hB.elim
                  rw [hB.2.2.1, cellsOf_ty ok hy]
          rw [hesz] at hs ⊢
          have hmc : m' ≤ cap' := by rcases hm' with ⟨_, h⟩ | ⟨_, h⟩ <;> exact h
          have e1 : l * y.size + (m' - l) * y.size = m' * y.size := by rw [← Nat.add_mul]; congr 1; omega
          have e2 : m' * y.size ≤ cap' * y.size := Nat.mul_le_mul_right _ hmc
          omega
    | slice0 b o o' _ im hσ hc =>
      obtain rfl : hh = 0 := by omega
      obtain rfl : l = 0 := by omega
      obtain rfl : m' = 0 := by rcases hm' with ⟨_, h⟩ | ⟨_, h⟩ <;> omega
      simp
      refine .slice0 _ _ _ _ im hσ ?_
      rcases hm' with ⟨h, _⟩ | ⟨h, _⟩
      · right; simp [h]
      · left; subst h; decide

end Go.Am
