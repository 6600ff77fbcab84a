/- Part of the proof: an abstract machine of our own over the model; no condition. -/
import Derived.Test.YtdicnaninnmoeaaGreatAmI
set_option linter.unusedSectionVars false
set_option linter.unusedSimpArgs false
set_option linter.unusedVariables false
set_option linter.unnecessarySimpa false
/- The abstract machine, part J: all operations. -/
namespace Go.Am
open Go
variable [F : Fr]

variable {P : Program} {ty : TyT} {σ : Sig} {H : AH} {w : World}

def aUn (op : UnOp) (x : Value) : Option Value :=
  match op, x with
  | .not, .bool b => some (.bool !b)
  | .neg, .int k n => some (.int k (k.wrap (0 - n)))
  | .xor, .int k n => some (.int k (k.wrap (BitVec.ofInt k.bits (if k.signed then -1 else k.max) ^^^ BitVec.ofInt k.bits n).toNat))
  | .neg, .float k b => some (.float k (Op.negFloat k b))
  | _, _ => none

theorem aUn_sound {op : UnOp} {x x' v : Value} (hx : VR σ x x') (h : aUn op x = some v) : (Op.unary op x').run P w = .ok v w ∧ VR σ v v := by
  unfold aUn at h
  split at h <;> try (cases h; done)
  · cases h; cases hx; exact ⟨rfl, .bool _⟩
  · cases h; cases hx; exact ⟨rfl, .int _ _⟩
  · cases h; cases hx; exact ⟨rfl, .int _ _⟩
  · cases h; cases hx; exact ⟨rfl, .float _ _⟩

/-! lists of operands -/

def evs (a : AAct) : List Operand → Option (List Value)
  | [] => some []
  | x :: xs =>
    match ev a x with
    | none => none
    | some v =>
      match evs a xs with
      | none => none
      | some vs => some (v :: vs)

theorem evs_VRs {a : AAct} {a' : Act} (h : AR σ a a') : ∀ {xs : List Operand} {vs : List Value}, evs a xs = some vs → VRs σ vs (xs.map a'.eval)
  | [], _, e => by simp [evs] at e; subst e; exact .nil
  | x :: xs, vs, e => by
    simp only [evs] at e
    split at e <;> try (cases e; done)
    rename_i v hv
    split at e <;> try (cases e; done)
    rename_i us hus
    cases e
    exact .cons (ev_VR h hv) (evs_VRs h hus)

def evParts (a : AAct) : List (Nat × Operand) → Option (List (Nat × Value))
  | [] => some []
  | (i, x) :: xs =>
    match ev a x with
    | none => none
    | some v =>
      match evParts a xs with
      | none => none
      | some vs => some ((i, v) :: vs)

theorem evParts_PRs {a : AAct} {a' : Act} (h : AR σ a a') : ∀ {xs : List (Nat × Operand)} {vs : List (Nat × Value)}, evParts a xs = some vs →
    PRs σ vs (xs.map fun p => (p.1, a'.eval p.2))
  | [], _, e => by simp [evParts] at e; subst e; exact .nil
  | (i, x) :: xs, vs, e => by
    simp only [evParts] at e
    split at e <;> try (cases e; done)
    rename_i v hv
    split at e <;> try (cases e; done)
    rename_i us hus
    cases e
    exact .cons (ev_VR h hv) (evParts_PRs h hus)

def evO (a : AAct) : Option Operand → Option (Option Value)
  | none => some none
  | some x => (ev a x).map some

theorem evO_OVR {a : AAct} {a' : Act} (h : AR σ a a') {x : Option Operand} {v : Option Value} (e : evO a x = some v) : OVR σ v (x.map a'.eval) := by
  cases x with
  | none => simp [evO] at e; subst e; exact .none
  | some x =>
    simp only [evO, Option.map_eq_some_iff] at e
    obtain ⟨u, hu, rfl⟩ := e
    exact .some (ev_VR h hu)

/-- Functions of the library that have no Go body. -/
inductive Ext where
  | floatBits | floatFrom | indexByte | makeNoZero (t : TypeId)

abbrev extRun (e : Ext) : Array Value → Sem Value :=
  match e with
  | .floatBits => Extern.MathFloatBits.float64bits
  | .floatFrom => Extern.MathFloatBits.float64frombits
  | .indexByte => Extern.BytealgIndexByte.indexByte
  | .makeNoZero t => Extern.BytealgMakeNoZero.makeNoZero #[] #[t]

/-- What is known of a program. -/
structure Env (P : Program) where
  ty : TyT
  eqOk : TypeId → Bool
  ext : FuncId → Option Ext
  ok : TyOk P ty
  hok : EqOk P eqOk
  hext : ∀ f e, ext f = some e → ∀ args w, (callFunc f args).run P w = ((extRun e args).run P w).andThen fun v w' => .ok (.value v) w'

def minInt (x y : Value) : Option Value :=
  match x, y with
  | .int k a, .int _ b => some (.int k (if b < a then b else a))
  | _, _ => none
def maxInt (x y : Value) : Option Value :=
  match x, y with
  | .int k a, .int _ b => some (.int k (if b > a then b else a))
  | _, _ => none

def foldInt (f : Value → Value → Option Value) : Value → List Value → Option Value
  | x, [] => match x with
    | .int k a => some (.int k a)
    | _ => none
  | x, y :: ys => (f x y).bind fun z => foldInt f z ys

theorem foldInt_min : ∀ (ys ys' : List Value) (x x' v : Value), VR σ x x' → VRs σ ys ys' → foldInt minInt x ys = some v → (ys'.foldlM Builtin.min2 x').run P w = .ok v w ∧ VR σ v v := by
  intro ys
  induction ys with
  | nil =>
    intro ys' x x' v hx hy h
    cases hy
    simp only [foldInt] at h
    split at h <;> try (cases h; done)
    cases h; cases hx
    exact ⟨by simp, .int _ _⟩
  | cons y ys ih =>
    intro ys' x x' v hx hy h
    cases hy with
    | cons hy1 hys =>
      simp only [foldInt, Option.bind_eq_some_iff] at h
      obtain ⟨z, hz, h⟩ := h
      unfold minInt at hz
      split at hz <;> try (cases hz; done)
      cases hz; cases hx; cases hy1
      have := ih _ _ _ v (.int _ _) hys h
      simp only [List.foldlM_cons, Sem.run_bind, Builtin.min2, Sem.run_pure, Result.andThen_ok]
      exact this

theorem foldInt_max : ∀ (ys ys' : List Value) (x x' v : Value), VR σ x x' → VRs σ ys ys' → foldInt maxInt x ys = some v → (ys'.foldlM Builtin.max2 x').run P w = .ok v w ∧ VR σ v v := by
  intro ys
  induction ys with
  | nil =>
    intro ys' x x' v hx hy h
    cases hy
    simp only [foldInt] at h
    split at h <;> try (cases h; done)
    cases h; cases hx
    exact ⟨by simp, .int _ _⟩
  | cons y ys ih =>
    intro ys' x x' v hx hy h
    cases hy with
    | cons hy1 hys =>
      simp only [foldInt, Option.bind_eq_some_iff] at h
      obtain ⟨z, hz, h⟩ := h
      unfold maxInt at hz
      split at hz <;> try (cases hz; done)
      cases hz; cases hx; cases hy1
      have := ih _ _ _ v (.int _ _) hys h
      simp only [List.foldlM_cons, Sem.run_bind, Builtin.max2, Sem.run_pure, Result.andThen_ok]
      exact this

def idxByte (s : ByteArray) (c : UInt8) : Int :=
  match (List.range s.size).find? fun i => s[i]! == c with
  | some i => i
  | none => -1

/-- Calls that only read: len, min, max, and library functions without a Go body. -/
def opCallR (E : Env P) (H : AH) (c : Call) (vs : List Value) : Option Value :=
  match c.callee, vs with
  | .builtin .len, [x] => match c.argTypes.toList with
    | [t] => aLen E.ty H t x
    | _ => none
  | .builtin .min, x :: xs => foldInt minInt x xs
  | .builtin .max, x :: xs => foldInt maxInt x xs
  | .value (.func f), [x] =>
    match E.ext f, x with
    | some .floatBits, .float .f64 b => some (.int .u64 b)
    | some .floatFrom, .int .u64 n => some (.float .f64 n.toNat)
    | _, _ => none
  | .value (.func f), [x, y] =>
    match E.ext f, x, y with
    | some .indexByte, .slice a n _, .int .u8 c =>
      if n = 0 then some (.int .i64 (-1)) else
      match a with
      | some ⟨b, o, none⟩ => (H.load b o n).bind fun cs => (bytesOf cs).map fun s => .int .i64 (idxByte s (UInt8.ofNat c.toNat))
      | _ => none
    | _, _, _ => none
  | _, _ => none

def isNilC : Operand → Bool
  | .const .nilIface => true
  | _ => false

def aNilNil (ty : TyT) (op : BinOp) (t : TypeId) (ox oy : Operand) (x y : Value) : Option Value :=
  if isNilC ox || isNilC oy then
    match ty t with
    | some d =>
      match d.desc, x, y with
      | .interface _, .nilIface, .nilIface =>
        match op with
        | .eql => some (.bool true)
        | .neq => some (.bool false)
        | _ => none
      | _, _, _ => none
    | none => none
  else none

def aTypeAssert (ty : TyT) (x : Value) (asserted : TypeId) (ok : Bool) : Option Value :=
  match ty asserted with
  | none => none
  | some d =>
    match d.desc, x, ok with
    | .interface _, _, _ => none
    | _, .nilIface, true => some (.tuple #[d.zero, .bool false])
    | _, .iface t v, true => if t = asserted then some (.tuple #[v, .bool true]) else some (.tuple #[d.zero, .bool false])
    | _, .iface t v, false => if t = asserted then some v else none
    | _, _, _ => none

/-- An operation that only reads. -/
def opR (E : Env P) (a : AAct) (H : AH) (o : Oper) : Option Value :=
  match o.op with
  | .move x | .assign x => ev a x
  | .pick c x y =>
    match ev a c with
    | some (.bool true) => ev a x
    | some (.bool false) => ev a y
    | _ => none
  | .build t parts => (evParts a parts.toList).bind fun ps => aBuild E.ty t ps.toArray
  | .load t x => (ev a x).bind fun p => aLoad E.ty H t p
  | .nilCheck x =>
    match ev a x with
    | some (.pointer (some p)) => some (.pointer (some p))
    | some (.func (.func f) u v) => some (.func (.func f) u v)
    | _ => none
  | .binOp op t x y _ => (ev a x).bind fun u => (ev a y).bind fun v =>
    match aNilNil E.ty op t x y u v with
    | some r => some r
    | none => aBin E.ty E.eqOk op t u v
  | .typeAssert x _ t ok => (ev a x).bind fun u => aTypeAssert E.ty u t ok
  | .unOp op _ x => (ev a x).bind fun u => aUn op u
  | .convert src dst x => (ev a x).bind fun u => aConvert E.ty H src dst u
  | .makeInterface t x =>
    match E.ty t with
    | some d => match d.desc with
      | .interface _ => none
      | _ => (ev a x).map fun u => .iface t u
    | none => none
  | .makeFunc fn first captured => (evs a first.toList).bind fun u => (evs a captured.toList).map fun v => .func fn u.toArray v.toArray
  | .slice t x lo hi mx => (ev a x).bind fun u => (evO a lo).bind fun l => (evO a hi).bind fun h => (evO a mx).bind fun m => aSlice E.ty H t u l h m
  | .fieldAddr t x f => (ev a x).bind fun p => aFieldAddr E.ty t p f
  | .field t x f => (ev a x).bind fun p => aField E.ty t p f
  | .indexAddr t x i => (ev a x).bind fun u => (ev a i).bind fun v => aIndexAddr E.ty t u v
  | .index t x i => (ev a x).bind fun u => (ev a i).bind fun v => aIndex E.ty t u v
  | .extract x i => (ev a x).bind fun u => aExtract u i
  | .call c => (evs a c.args.toList).bind fun vs => opCallR E H c vs
  | _ => none

end Go.Am
