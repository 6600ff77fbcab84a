/- Part of the proof: an abstract machine of our own over the model; no condition. -/
import Derived.Test.YtdicnaninnmoeaaGreatAmG
import Derived.Laws.StructEq
set_option linter.unusedSectionVars false
set_option linter.unusedSimpArgs false
set_option linter.unusedVariables false
set_option linter.unnecessarySimpa false
/- The abstract machine, part H: operations that read alone. -/
namespace Go.Am
open Go
variable [F : Fr]

variable {P : Program} {ty : TyT} {σ : Sig} {H : AH} {w : World}

/-- A part of an aggregate. -/
def aPart (ty : TyT) (t : TypeId) (cs : Array Value) (off : Nat) : Option Value :=
  match ty t with
  | none => none
  | some x => if isAggD x.desc then some (.agg (cs.extract off (off + x.size))) else cs[off]?

theorem aPart_sound (ok : TyOk P ty) {t : TypeId} {cs cs' : Array Value} {off : Nat} {v : Value} (hc : VRs σ cs.toList cs'.toList) (h : aPart ty t cs off = some v) (w : World) :
    ∃ rv, (part t cs' off).run P w = .ok rv w ∧ VR σ v rv := by
  unfold aPart at h
  split at h <;> try (cases h; done)
  rename_i x hx
  have hagg := run_isAgg_ty ok hx w
  have hsz := run_sizeOf_ty ok hx w
  split at h
  · rename_i hd
    cases h
    refine ⟨.agg (cs'.extract off (off + x.size)), by simp [part, hagg, hd, hsz], .agg _ _ ?_⟩
    simpa [List.extract_eq_take_drop, List.extract] using (hc.drop off).take x.size
  · rename_i hd
    obtain ⟨v', e', hv⟩ := hc.get? off (v := v) (by simpa using h)
    have e2 : cs'[off]? = some v' := by simpa using e'
    exact ⟨v', by simp [part, hagg, hd, e2], hv⟩

def aField (ty : TyT) (t : TypeId) (x : Value) (f : Nat) : Option Value :=
  match ty t, x with
  | some d, .agg cs =>
    match d.desc with
    | .struct fields =>
      match fields[f]? with
      | some fd => aPart ty fd.type cs fd.offset
      | none => none
    | _ => none
  | _, _ => none

theorem aField_sound (ok : TyOk P ty) {t : TypeId} {x x' v : Value} {f : Nat} (hx : VR σ x x') (h : aField ty t x f = some v) (w : World) :
    ∃ rv, (Instr.field t x' f).run P w = .ok rv w ∧ VR σ v rv := by
  unfold aField at h
  split at h <;> try (cases h; done)
  rename_i d cs hd
  split at h <;> try (cases h; done)
  rename_i fields hde
  split at h <;> try (cases h; done)
  rename_i fd hfd
  cases hx with
  | agg c c' hc =>
    obtain ⟨rv, hrun, hv⟩ := aPart_sound ok hc h w
    have hu := run_underlying_ty ok hd w
    exact ⟨rv, by simp [Instr.field, hu, hde, hfd, asAgg, hrun], hv⟩

def aIndex (ty : TyT) (t : TypeId) (x ix : Value) : Option Value :=
  match ty t, intOf? ix with
  | some d, some i =>
    match d.desc, x with
    | .array n e, .agg cs =>
      match ty e with
      | none => none
      | some y => if 0 ≤ i ∧ i < n then aPart ty e cs (i.toNat * y.size) else none
    | .string, .string s =>
      if 0 ≤ i then
        match s[i.toNat]? with
        | some b => some (.int .u8 b.toNat)
        | none => none
      else none
    | _, _ => none
  | _, _ => none

theorem aIndex_sound (ok : TyOk P ty) {t : TypeId} {x x' ix ix' v : Value} (hx : VR σ x x') (hi : VR σ ix ix') (h : aIndex ty t x ix = some v) (w : World) :
    ∃ rv, (Instr.index t x' ix').run P w = .ok rv w ∧ VR σ v rv := by
  unfold aIndex at h
  split at h <;> try (cases h; done)
  rename_i d i hd hii
  obtain ⟨k, rfl⟩ := intOf?_VR hi hii
  have hu := run_underlying_ty ok hd w
  split at h <;> try (cases h; done)
  · rename_i n e cs hde
    split at h <;> try (cases h; done)
    rename_i y hy
    split at h <;> try (cases h; done)
    rename_i hc
    have hz := run_sizeOf_ty ok hy w
    cases hx with
    | agg c c' hcc =>
      obtain ⟨rv, hrun, hv⟩ := aPart_sound ok hcc h w
      exact ⟨rv, by simp [Instr.index, asIntOf, hu, hde, hc, hz, hrun], hv⟩
  · rename_i s hde
    split at h <;> try (cases h; done)
    rename_i h0
    split at h <;> try (cases h; done)
    rename_i b hb
    cases h
    cases hx
    exact ⟨_, by simp [Instr.index, asIntOf, hu, hde, h0, hb], .int _ _⟩

def aExtract (x : Value) (k : Nat) : Option Value :=
  match x with
  | .tuple vs => vs[k]?
  | _ => none

theorem aExtract_sound {x x' v : Value} {k : Nat} (hx : VR σ x x') (h : aExtract x k = some v) (w : World) :
    ∃ rv, (Instr.extract x' k).run P w = .ok rv w ∧ VR σ v rv := by
  unfold aExtract at h
  split at h <;> try (cases h; done)
  cases hx with
  | tuple c c' hc =>
    obtain ⟨v', e', hv⟩ := hc.get? k (v := v) (by simpa using h)
    have e2 : c'[k]? = some v' := by simpa using e'
    exact ⟨v', by simp [Instr.extract, e2], hv⟩

def aLen (ty : TyT) (H : AH) (t : TypeId) (x : Value) : Option Value :=
  match ty t with
  | none => none
  | some d =>
    match d.desc, x with
    | .string, .string s => some (.int .i64 s.size)
    | .array n _, _ => some (.int .i64 n)
    | .slice _, .slice _ n _ => some (.int .i64 n)
    | .map _ _, .map none => some (.int .i64 0)
    | .map _ _, .map (some b) =>
      match H.get b with
      | some (.map es) => some (.int .i64 es.length)
      | _ => none
    | _, _ => none

theorem MR.length {σ : Sig} : ∀ {l l'}, MR σ l l' → l.length = l'.length
  | _, _, .nil => rfl
  | _, _, .cons _ _ h => by simp [h.length]

theorem HR.map (hr : HR P σ H w) {b : Nat} {es : List (Value × Value)} {i : Img} (hb : H.get b = some (.map es)) (hi : σ b = some i) :
    ∃ es' c, w.heap[i.blk]? = some (.map es' c) ∧ MR σ es es'.toList := by
  have hB := hr.at hb hi
  cases ho : w.heap[i.blk]? with
  | none => rw [ho] at hB; exact hB.elim
  | some ob =>
    rw [ho] at hB
    cases ob <;> try exact hB.elim
    exact ⟨_, _, rfl, hB⟩

theorem run_getObj_map {r : Nat} {es : Array MapEntry} {c : Nat} (h : w.heap[r]? = some (.map es c)) : (getObj r).run P w = .ok (.map es c) w := by
  simp [getObj, Sem.run, h]

theorem aLen_sound (ok : TyOk P ty) (hr : HR P σ H w) {t ty' : TypeId} {x x' v : Value} (hx : VR σ x x') (h : aLen ty H t x = some v) :
    ∃ rv, (Builtin.len_ #[t] ty' #[x']).run P w = .ok rv w ∧ VR σ v rv := by
  unfold aLen at h
  split at h <;> try (cases h; done)
  rename_i d hd
  have hu := run_underlying_ty ok hd w
  split at h <;> try (cases h; done)
  · rename_i s hde
    cases h; cases hx
    exact ⟨_, by simp [Builtin.len_, hu, hde, goInt], .int _ _⟩
  · rename_i n e hde
    cases h
    refine ⟨.int .i64 n, ?_, .int _ _⟩
    simp [Builtin.len_, hu, hde, goInt]
  · rename_i e a n c hde
    cases h
    cases hx with
    | snil => exact ⟨_, by simp [Builtin.len_, hu, hde, goInt], .int _ _⟩
    | slice => exact ⟨_, by simp [Builtin.len_, hu, hde, goInt], .int _ _⟩
    | slice0 => exact ⟨_, by simp [Builtin.len_, hu, hde, goInt], .int _ _⟩
  · rename_i k e hde
    cases h; cases hx
    exact ⟨_, by simp [Builtin.len_, hu, hde, goInt], .int _ _⟩
  · rename_i k e b hde
    split at h <;> try (cases h; done)
    rename_i es hb
    cases h
    cases hx with
    | map _ i hi =>
      obtain ⟨es', c, ho, hm⟩ := hr.map hb hi
      have hl := hm.length
      simp at hl
      refine ⟨.int .i64 es'.size, ?_, by rw [hl]; exact .int _ _⟩
      simp [Builtin.len_, hu, hde, goInt, run_getObj_map ho]

def bytesOf : List Value → Option ByteArray
  | [] => some .empty
  | .int .u8 n :: l => (bytesOf l).map fun s => ⟨#[UInt8.ofNat n.toNat] ++ s.data⟩
  | _ => none

/-- A conversion that lays no memory. -/
def aConvert (ty : TyT) (H : AH) (src dst : TypeId) (x : Value) : Option Value :=
  match ty src, ty dst with
  | some s, some d =>
    match d.desc, x with
    | .int k, .int _ n => some (.int k (k.wrap n))
    | .float k, .int _ n => some (.float k (k.nearest n))
    | .string, .string _ => some x
    | .string, .slice a n c =>
      match s.desc with
      | .slice e =>
        match ty e with
        | some y =>
          match y.desc with
          | .int .u8 =>
            if n = 0 then some (.string .empty) else
            match a with
            | some ⟨b, o, none⟩ => (H.load b o n).bind fun cs => (bytesOf cs).map .string
            | _ => none
          | _ => none
        | none => none
      | _ => none
    | _, _ => none
  | _, _ => none

def pureOf {α : Type} : Sem α → Option α
  | .pure a => some a
  | _ => none

theorem pureOf_run {α : Type} {s : Sem α} {a : α} (h : pureOf s = some a) (w : World) : s.run P w = .ok a w := by
  cases s <;> simp [pureOf] at h
  subst h; rfl


theorem bytesOf_loop (f : Value → ByteArray → Sem (ForInStep ByteArray)) (hf : ∀ n s, f (.int .u8 n) s = pure (ForInStep.yield (s.push (UInt8.ofNat n.toNat)))) :
    ∀ (l l' : List Value) (s acc : ByteArray) (w : World), VRs σ l l' → bytesOf l = some s → (forIn (m := Sem) l' acc f).run P w = .ok (acc ++ s) w := by
  intro l
  induction l with
  | nil =>
    intro l' s acc w hv h
    cases hv
    simp [bytesOf] at h
    subst h
    simp
  | cons v l ih =>
    intro l' s acc w hv h
    cases hv with
    | cons h1 hs =>
      unfold bytesOf at h
      split at h <;> try (cases h; done)
      · rename_i heq; cases heq
      · rename_i n l0 heq
        cases heq
        rw [Option.map_eq_some_iff] at h
        obtain ⟨s0, h0, rfl⟩ := h
        cases h1
        have := ih _ s0 (acc.push (UInt8.ofNat n.toNat)) w hs h0
        simp only [List.forIn_cons, hf, Sem.run_bind, Sem.run_pure, Result.andThen_ok]
        rw [this]
        congr 1
        apply ByteArray.ext
        simp [ByteArray.data_append, ByteArray.data_push, Array.append_assoc]

theorem aConvert_sound (ok : TyOk P ty) (hr : HR P σ H w) {src dst : TypeId} {x x' v : Value} (hx : VR σ x x') (h : aConvert ty H src dst x = some v) :
    ∃ rv, (convert src dst x').run P w = .ok rv w ∧ VR σ v rv := by
  unfold aConvert at h
  split at h <;> try (cases h; done)
  rename_i s d hs hd
  have hus := run_underlying_ty ok hs w
  have hud := run_underlying_ty ok hd w
  split at h <;> try (cases h; done)
  · rename_i k k' n hde
    cases h; cases hx
    exact ⟨_, by simp [convert, hus, hud, hde, Conv.intToInt], .int _ _⟩
  · rename_i k k' n hde
    cases h; cases hx
    exact ⟨_, by simp [convert, hus, hud, hde, Conv.intToFloat], .float _ _⟩
  · rename_i s' hde
    cases h; cases hx
    exact ⟨_, by simp [convert, hus, hud, hde], .string _⟩
  · rename_i a n c hde
    split at h <;> try (cases h; done)
    rename_i e hse
    split at h <;> try (cases h; done)
    rename_i y hy
    split at h <;> try (cases h; done)
    rename_i hye
    have huy := run_underlying_ty ok hy w
    have hconv : ∀ ra cap', (convert src dst (.slice ra n cap')).run P w = (Conv.bytesToString (.slice ra n cap')).run P w := by
      intro ra cap'
      simp [convert, hus, hud, hde, hse, huy, hye]
    split at h
    · rename_i hn
      cases h
      subst hn
      cases hx with
      | snil => exact ⟨.string .empty, by rw [hconv]; simp [Conv.bytesToString], .string _⟩
      | slice => exact ⟨.string .empty, by rw [hconv]; simp [Conv.bytesToString, loadCells, loadCellsFrom], .string _⟩
      | slice0 => exact ⟨.string .empty, by rw [hconv]; simp [Conv.bytesToString, loadCells, loadCellsFrom], .string _⟩
    · rename_i hn
      split at h <;> try (cases h; done)
      rename_i b o
      rw [Option.bind_eq_some_iff] at h
      obtain ⟨cs, hl, h⟩ := h
      rw [Option.map_eq_some_iff] at h
      obtain ⟨s', hb, rfl⟩ := h
      cases hx with
      | slice _ _ _ _ cap' im hσ hcc hl' hsz =>
        obtain ⟨rs, hv, _, _, hrun⟩ := hr.load hl hσ
        refine ⟨.string s', ?_, .string _⟩
        rw [hconv]
        have hrun := hrun w rfl
        simp only [Conv.bytesToString, Sem.run_bind, hrun, Result.andThen_ok]
        rw [← Array.forIn_toList, bytesOf_loop _ (fun n s => rfl) _ _ s' .empty w (by simpa using hv) hb]
        simp
      | slice0 => exact absurd rfl hn

end Go.Am
