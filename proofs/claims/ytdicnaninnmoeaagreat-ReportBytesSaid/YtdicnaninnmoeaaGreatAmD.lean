/- Part of the proof: an abstract machine of our own over the model; no condition. -/
import Derived.Test.YtdicnaninnmoeaaGreatAmC
set_option linter.unusedSectionVars false
set_option linter.unusedSimpArgs false
set_option linter.unusedVariables false
set_option linter.unnecessarySimpa false
/- The abstract machine, part D: operations that make values out of values, and new blocks. -/
namespace Go.Am
open Go
variable [F : Fr]

variable {P : Program} {ty : TyT} {σ : Sig} {H : AH} {w : World}

/-- What an operation of the model gives, in a world as it is said. -/
def GV (P : Program) (σ : Sig) (H' : AH) (v : Value) (r : Result Value) : Prop :=
  ∃ σ' rv w', r = .ok rv w' ∧ Le σ σ' ∧ HR P σ' H' w' ∧ VR σ' v rv

theorem GV.same (hr : HR P σ H w) {v rv : Value} (h : VR σ v rv) : GV P σ H v (.ok rv w) := ⟨σ, rv, w, rfl, Le.refl _, hr, h⟩

/-! new variables -/

def aNew (ty : TyT) (H : AH) (t : TypeId) (cs : List Value) : Option (Value × AH) :=
  match ty t with
  | none => none
  | some _ => if cs.all (·.oneCell') = true then some (.pointer (some ⟨H.next, 0, none⟩), H.push (.cells cs t)) else none

theorem aNew_sound (ok : TyOk P ty) (hr : HR P σ H w) {t : TypeId} {cs : List Value} {v : Value} {H' : AH} {rs : Array Value} (hv : VRs σ cs rs.toList)
    (h : aNew ty H t cs = some (v, H')) : GV P σ H' v ((do pure (.pointer (some (← Go.newRow t rs))) : Sem Value).run P w) := by
  unfold aNew at h
  split at h <;> try (cases h; done)
  rename_i x hx
  split at h <;> try (cases h; done)
  rename_i hone
  cases h
  obtain ⟨σ', w', hle, hr', hσ, hrun, _⟩ := hr.newRow ok hx #[] hv hone
  simp only [Array.append_empty] at hrun hσ
  have := VR.ptr (σ := σ') H.next 0 _ hσ
  simp only [Nat.zero_add] at this
  exact ⟨σ', _, w', by simp [hrun], hle, hr', this⟩

def aAlloc (ty : TyT) (H : AH) (t : TypeId) : Option (Value × AH) :=
  match ty t with
  | none => none
  | some x => aNew ty H t x.zero.cells.toList

theorem aAlloc_sound (ok : TyOk P ty) (hr : HR P σ H w) {t : TypeId} {v : Value} {H' : AH} (h : aAlloc ty H t = some (v, H')) :
    GV P σ H' v ((Instr.alloc t true (.tuple #[])).run P w) := by
  unfold aAlloc at h
  split at h <;> try (cases h; done)
  rename_i x hx
  have hz := run_zeroValue_ty ok hx w
  have := aNew_sound ok hr (zero_VR ok hx σ).cells h
  simpa [Instr.alloc, hz, newVar] using this

def aBox (ty : TyT) (H : AH) (t : TypeId) (v : Value) : Option (Value × AH) := aNew ty H t v.cells.toList

theorem aBox_sound (ok : TyOk P ty) (hr : HR P σ H w) {t : TypeId} {x x' v : Value} {H' : AH} (hx : VR σ x x') (h : aBox ty H t x = some (v, H')) :
    GV P σ H' v ((Instr.box t x').run P w) := by
  have := aNew_sound ok hr hx.cells h
  simpa [Instr.box, newVar] using this

/-! aggregates -/

theorem foldl_sets {σ : Sig} (off : Nat) : ∀ (l l' : List Value) (k : Nat) (c c' : Array Value), VRs σ l l' → VRs σ c.toList c'.toList →
    VRs σ ((l.zipIdx k).foldl (fun cs (p : Value × Nat) => cs.setIfInBounds (off + p.2) p.1) c).toList ((l'.zipIdx k).foldl (fun cs (p : Value × Nat) => cs.setIfInBounds (off + p.2) p.1) c').toList := by
  intro l
  induction l with
  | nil => intro l' k c c' h hc; cases h; simpa using hc
  | cons v l ih =>
    intro l' k c c' h hc
    cases h with
    | cons hv hs =>
      simp only [List.zipIdx_cons, List.foldl_cons]
      exact ih _ _ _ _ hs (by simpa using hc.set (off + k) hv)

inductive PRs (σ : Sig) : List (Nat × Value) → List (Nat × Value) → Prop
  | nil : PRs σ [] []
  | cons {n v v' l l'} (h : VR σ v v') (hs : PRs σ l l') : PRs σ ((n, v) :: l) ((n, v') :: l')

theorem fill_sound {σ : Sig} (place : Nat → Option (Nat × Nat)) : ∀ (parts parts' : List (Nat × Value)) (c c' r : Array Value), PRs σ parts parts' → VRs σ c.toList c'.toList →
    Instr.fill place c parts = some r → ∃ r', Instr.fill place c' parts' = some r' ∧ VRs σ r.toList r'.toList := by
  intro parts
  induction parts with
  | nil => intro parts' c c' r h hc e; cases h; simp [Instr.fill] at e; subst e; exact ⟨c', by simp [Instr.fill], hc⟩
  | cons p parts ih =>
    intro parts' c c' r h hc e
    cases h with
    | cons hv hs =>
      rename_i n v v' l'
      simp only [Instr.fill] at e ⊢
      have hl := hv.cells.length
      have hl2 := hc.length
      simp at hl hl2
      cases hp : place n with
      | none => simp [hp] at e
      | some q =>
        obtain ⟨off, size⟩ := q
        simp only [hp] at e ⊢
        rw [← hl, ← hl2]
        split at e
        · cases e
        · rename_i hcond
          rw [if_neg hcond]
          refine ih _ _ _ _ hs ?_ e
          have := foldl_sets (σ := σ) off v.cells.toList v'.cells.toList 0 c c' hv.cells hc
          have ef : ∀ (u : Value) (d : Array Value), (u.cells.zipIdx.foldl (fun cs (x : Value × Nat) => cs.setIfInBounds (off + x.2) x.1) d) = (u.cells.toList.zipIdx.foldl (fun cs (x : Value × Nat) => cs.setIfInBounds (off + x.2) x.1) d) := by
            intro u d
            rw [← Array.foldl_toList, Array.toList_zipIdx]
          have h1 := ef v c
          have h2 := ef v' c'
          rw [h1, h2]
          exact this

def fieldSizes (ty : TyT) : List Field → Option (List (Nat × Nat))
  | [] => some []
  | f :: fs =>
    match ty f.type with
    | none => none
    | some x => (fieldSizes ty fs).map fun l => (f.offset, x.size) :: l

theorem fieldSizes_run (ok : TyOk P ty) : ∀ (fs : List Field) (l : List (Nat × Nat)), fieldSizes ty fs = some l → ∀ w,
    (fs.mapM (fun f => do pure (f.offset, ← sizeOf f.type) : Field → Sem (Nat × Nat))).run P w = .ok l w := by
  intro fs
  induction fs with
  | nil => intro l h w; simp [fieldSizes] at h; subst h; simp
  | cons f fs ih =>
    intro l h w
    simp only [fieldSizes] at h
    split at h <;> try (cases h; done)
    rename_i x hx
    rw [Option.map_eq_some_iff] at h
    obtain ⟨l', h', rfl⟩ := h
    have hs := run_sizeOf_ty ok hx w
    simp only [List.mapM_cons, Sem.run_bind, hs, Result.andThen_ok, Sem.run_pure, ih l' h' w]

def aBuild (ty : TyT) (t : TypeId) (parts : Array (Nat × Value)) : Option Value :=
  match ty t with
  | none => none
  | some x =>
    match x.desc with
    | .struct fields => (fieldSizes ty fields.toList).bind fun l => (Instr.fill (l.toArray[·]?) x.zero.cells parts.toList).map .agg
    | .array _ e =>
      match ty e with
      | none => none
      | some y => (Instr.fill (fun i => some (i * y.size, y.size)) x.zero.cells parts.toList).map .agg
    | _ => none

theorem aBuild_sound (ok : TyOk P ty) {t : TypeId} {parts parts' : Array (Nat × Value)} {v : Value} (hp : PRs σ parts.toList parts'.toList)
    (h : aBuild ty t parts = some v) : ∃ rv, (Instr.build t parts').run P w = .ok rv w ∧ VR σ v rv := by
  unfold aBuild at h
  split at h <;> try (cases h; done)
  rename_i x hx
  have hz := run_zeroValue_ty ok hx w
  have hu := run_underlying_ty ok hx w
  have hzz := (zero_VR ok hx σ).cells
  split at h
  · rename_i fields hd
    rw [Option.bind_eq_some_iff] at h
    obtain ⟨l, hl, h⟩ := h
    rw [Option.map_eq_some_iff] at h
    obtain ⟨r, hf, rfl⟩ := h
    obtain ⟨r', hf', hrr⟩ := fill_sound (l.toArray[·]?) _ _ _ _ _ hp hzz hf
    have hm : (fields.mapM (fun f => do pure (f.offset, ← sizeOf f.type) : Field → Sem (Nat × Nat))).run P w = .ok l.toArray w := by
      rw [Array.mapM_eq_mapM_toList]
      simp only [Sem.run_map, fieldSizes_run ok _ _ hl w, Result.andThen_ok]
    refine ⟨.agg r', ?_, .agg _ _ hrr⟩
    simp only [Instr.build, Sem.run_bind, hz, hu, hd, Result.andThen_ok]
    rw [hm]
    simp only [Result.andThen_ok, hf', Sem.run_pure]
  · rename_i n e hd
    split at h <;> try (cases h; done)
    rename_i y hy
    rw [Option.map_eq_some_iff] at h
    obtain ⟨r, hf, rfl⟩ := h
    obtain ⟨r', hf', hrr⟩ := fill_sound (fun i => some (i * y.size, y.size)) _ _ _ _ _ hp hzz hf
    have hs := run_sizeOf_ty ok hy w
    exact ⟨.agg r', by simp [Instr.build, hz, hu, hd, hs, hf'], .agg _ _ hrr⟩
  · cases h

theorem VR_default (σ : Sig) : VR σ (default : Value) (default : Value) := .bool _

theorem VRs.get! {σ : Sig} {c c' : Array Value} (h : VRs σ c.toList c'.toList) (k : Nat) : VR σ c[k]! c'[k]! := by
  have hl := h.length
  simp at hl
  by_cases hk : k < c.size
  · obtain ⟨v', e, hv⟩ := h.get? k (v := c[k]) (by simp [hk])
    have hk' : k < c'.size := by omega
    simp [hk'] at e
    simpa [hk, hk', e] using hv
  · have hk' : ¬ k < c'.size := by omega
    simp only [getElem!_def, Array.getElem?_eq_none (Nat.le_of_not_lt hk), Array.getElem?_eq_none (Nat.le_of_not_lt hk')]
    exact VR_default σ

theorem VRs.map_self {σ : Sig} {α : Type} (f g : α → Value) (h : ∀ a, VR σ (f a) (g a)) : ∀ l : List α, VRs σ (l.map f) (l.map g)
  | [] => .nil
  | a :: l => .cons (h a) (VRs.map_self f g h l)

def zeroRow (x : Ty) (n : Nat) : Array Value := (Array.range n).map (fun k => x.zero.cells[k % x.zero.cells.size]!)

theorem getBang_one {c : Array Value} (h : c.toList.all (·.oneCell') = true) (k : Nat) : (c[k]!).oneCell' = true := by
  by_cases hk : k < c.size
  · simp only [List.all_eq_true] at h
    have := h c[k] (by simp)
    simpa [hk] using this
  · simp only [getElem!_def, Array.getElem?_eq_none (Nat.le_of_not_lt hk)]
    rfl

theorem zeroRow_one (ok : TyOk P ty) {t : TypeId} {x : Ty} (hx : ty t = some x) (n : Nat) : (zeroRow x n).toList.all (·.oneCell') = true := by
  simp only [List.all_eq_true]
  intro v hv
  simp only [zeroRow, Array.toList_map, List.mem_map] at hv
  obtain ⟨k, _, rfl⟩ := hv
  exact getBang_one (ok t x hx).zone _

theorem zeroRow_VRs (ok : TyOk P ty) {t : TypeId} {x : Ty} (hx : ty t = some x) (σ : Sig) (n : Nat) : VRs σ (zeroRow x n).toList (zeroRow x n).toList := by
  simp only [zeroRow, Array.toList_map]
  exact VRs.map_self _ _ (fun k => (zero_VR ok hx σ).cells.get! _) _

def aBuildSlice (ty : TyT) (H : AH) (t : TypeId) (len : Nat) (parts : Array (Nat × Value)) : Option (Value × AH) :=
  match ty t with
  | none => none
  | some x =>
    match x.desc with
    | .slice e =>
      match ty e with
      | none => none
      | some y =>
        if len * y.size > 16777216 ∨ y.size = 0 then none
        else (Instr.fill (fun i => some (i * y.size, y.size)) (zeroRow y (len * y.size)) parts.toList).bind fun c =>
          if c.toList.all (·.oneCell') = true then some (.slice (some ⟨H.next, 0, none⟩) len len, H.push (.cells c.toList e)) else none
    | _ => none

theorem fill_size (place : Nat → Option (Nat × Nat)) : ∀ (parts : List (Nat × Value)) (c r : Array Value), Instr.fill place c parts = some r → r.size = c.size := by
  have hf : ∀ (off : Nat) (l : List (Value × Nat)) (c : Array Value), (l.foldl (fun cs (p : Value × Nat) => cs.setIfInBounds (off + p.2) p.1) c).size = c.size := by
    intro off l
    induction l with
    | nil => intro c; rfl
    | cons p l ih => intro c; simp only [List.foldl_cons]; rw [ih]; simp
  intro parts
  induction parts with
  | nil => intro c r h; simp [Instr.fill] at h; subst h; rfl
  | cons p parts ih =>
    intro c r h
    obtain ⟨i, v⟩ := p
    simp only [Instr.fill] at h
    split at h
    · cases h
    · split at h
      · cases h
      · have := ih _ _ h
        rw [this, ← Array.foldl_toList]
        exact hf _ _ _

theorem aBuildSlice_sound (ok : TyOk P ty) (hr : HR P σ H w) {t : TypeId} {len : Nat} {parts parts' : Array (Nat × Value)} {v : Value} {H' : AH}
    (hp : PRs σ parts.toList parts'.toList) (h : aBuildSlice ty H t len parts = some (v, H')) : GV P σ H' v ((Instr.buildSlice t len parts').run P w) := by
  unfold aBuildSlice at h
  split at h <;> try (cases h; done)
  rename_i x hx
  have hu := run_underlying_ty ok hx w
  split at h <;> try (cases h; done)
  rename_i e hd
  split at h <;> try (cases h; done)
  rename_i y hy
  split at h <;> try (cases h; done)
  rename_i hc
  rw [Option.bind_eq_some_iff] at h
  obtain ⟨c, hf, h⟩ := h
  split at h <;> try (cases h; done)
  rename_i hone
  cases h
  have hs := run_sizeOf_ty ok hy w
  have hz := run_zeroValue_ty ok hy w
  obtain ⟨c', hf', hcc⟩ := fill_sound _ _ _ _ _ _ hp (zeroRow_VRs ok hy σ (len * y.size)) hf
  have hsz := fill_size _ _ _ _ hf'
  obtain ⟨σ', w', hle, hr', hσ, hrun, _⟩ := hr.newRow ok hy #[] hcc hone
  simp only [Array.append_empty] at hrun hσ
  have hsz2 : c'.size = len * y.size := by rw [hsz]; simp [zeroRow]
  have hv := VR.slice (σ := σ') H.next 0 len len len _ hσ (.inl rfl) (Nat.le_refl _) (by simp [hsz2])
  simp only [Nat.zero_add] at hv
  refine ⟨σ', _, w', ?_, hle, hr', hv⟩
  have hc1 : ¬ len * y.size > 2 ^ 24 := by have := hc; simp at this ⊢; omega
  simp only [Instr.buildSlice, Sem.run_bind, hu, hd, Result.andThen_ok, hs]
  simp only [hc1, if_false, Sem.run_bind, Sem.run_pure, Result.andThen_ok]
  by_cases h0 : len * y.size = 0
  · have e0 : zeroRow y (len * y.size) = #[] := by simp [zeroRow, h0]
    rw [e0] at hf'
    have hl0 : len * y.size = 0 := h0
    have hemp : ∀ g : Nat → Value, Array.map g (Array.range 0) = #[] := fun g => by simp
    simp only [hl0, if_true, Sem.run_bind, Sem.run_pure, Result.andThen_ok, hemp]
    rw [hf']
    simp [hrun]
  · simp only [h0, if_false, Sem.run_bind, hz, Result.andThen_ok, Sem.run_pure]
    have : (Array.map (fun x_1 => y.zero.cells[x_1 % y.zero.cells.size]!) (Array.range (len * y.size))) = zeroRow y (len * y.size) := rfl
    rw [this, hf']
    simp [hrun]

end Go.Am
