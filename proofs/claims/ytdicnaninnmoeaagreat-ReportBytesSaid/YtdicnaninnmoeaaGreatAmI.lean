/- Part of the proof: an abstract machine of our own over the model; no condition. -/
import Derived.Test.YtdicnaninnmoeaaGreatAmH
set_option linter.unusedSectionVars false
set_option linter.unusedSimpArgs false
set_option linter.unusedVariables false
set_option linter.unnecessarySimpa false
/- The abstract machine, part I: equality and arithmetic. -/
namespace Go.Am
open Go
variable [F : Fr]

variable {P : Program} {ty : TyT} {σ : Sig} {H : AH} {w : World}

def aEqs (ty : TyT) (eq : TypeId → Value → Value → Option Bool) (xs ys : Array Value) : List Field → Option Bool
  | [] => some true
  | f :: fs =>
    if f.name = "_" then none else
    match aPart ty f.type xs f.offset, aPart ty f.type ys f.offset with
    | some a, some b =>
      match eq f.type a b with
      | some r =>
        match aEqs ty eq xs ys fs with
        | some q => some (r && q)
        | none => none
      | none => none
    | _, _ => none

/-- Are two values of a type the same? Of numbers, bools, strings, structs of these; of what may be nil. -/
def aEq (ty : TyT) (eqOk : TypeId → Bool) : Nat → TypeId → Value → Value → Option Bool
  | 0, _, _, _ => none
  | d + 1, t, x, y =>
    match ty t with
    | none => none
    | some info =>
      match info.desc, x, y with
      | .bool, .bool a, .bool b => some (a == b)
      | .int _, .int k a, .int k' b => if k = k' then some (a == b) else none
      | .string, .string a, .string b => some (a == b)
      | .struct fs, .agg xs, .agg ys => if eqOk t = true then aEqs ty (aEq ty eqOk d) xs ys fs.toList else none
      | .pointer _, .pointer none, .pointer none => some true
      | .pointer _, .pointer none, .pointer (some _) => some false
      | .pointer _, .pointer (some _), .pointer none => some false
      | .pointer e, .pointer (some ⟨b, o, none⟩), .pointer (some ⟨b', o', none⟩) =>
        match ty e with
        | none => none
        | some y => if b = b' ∧ y.size ≠ 0 then some (o == o') else none
      | .slice _, .slice none _ _, .slice b _ _ => some b.isNone
      | .slice _, .slice (some _) _ _, .slice none _ _ => some false
      | .map _ _, .map none, .map b => some b.isNone
      | .map _ _, .map (some _), .map none => some false
      | .func _ _ _, .nilFunc, .nilFunc => some true
      | .func _ _ _, .nilFunc, .func _ _ _ => some false
      | .func _ _ _, .func _ _ _, .nilFunc => some false
      | .interface _, .nilIface, .iface _ _ => some false
      | .interface _, .iface _ _, .nilIface => some false
      | _, _, _ => none

def EqOk (P : Program) (eqOk : TypeId → Bool) : Prop := ∀ t, eqOk t = true → P.stoodInHeld t = false ∧ P.eqGuardType P.depth t = false

theorem aEqs_sound (ok : TyOk P ty) {eq : TypeId → Value → Value → Option Bool} {d : Nat}
    (heq : ∀ t x y x' y' r, VR σ x x' → VR σ y y' → eq t x y = some r → (Op.equalIn d t x' y').run P w = .ok r w) {xs ys xs' ys' : Array Value}
    (hx : VRs σ xs.toList xs'.toList) (hy : VRs σ ys.toList ys'.toList) : ∀ (fs : List Field) (r : Bool), aEqs ty eq xs ys fs = some r →
    (Op.eqFields d xs' ys' fs).run P w = .ok r w := by
  intro fs
  induction fs with
  | nil => intro r h; simp [aEqs] at h; subst h; simp [Op.eqFields]
  | cons f fs ih =>
    intro r h
    unfold aEqs at h
    split at h <;> try (cases h; done)
    rename_i hn
    split at h <;> try (cases h; done)
    rename_i a b ha hb
    split at h <;> try (cases h; done)
    rename_i r1 hr1
    split at h <;> try (cases h; done)
    rename_i q hq
    cases h
    obtain ⟨ra, hra, hva⟩ := aPart_sound ok hx ha w
    obtain ⟨rb, hrb, hvb⟩ := aPart_sound ok hy hb w
    have he := heq _ _ _ _ _ _ hva hvb hr1
    have hi := ih q hq
    rw [Op.eqFields, if_pos hn]
    simp only [Sem.run_bind, hra, hrb, he, Result.andThen_ok]
    cases r1
    · simp
    · simpa using hi

set_option maxHeartbeats 2000000 in
theorem aEq_sound (ok : TyOk P ty) {eqOk : TypeId → Bool} (hok : EqOk P eqOk) : ∀ (d : Nat) (t : TypeId) (x y x' y' : Value) (r : Bool), VR σ x x' → VR σ y y' →
    aEq ty eqOk d t x y = some r → (Op.equalIn d t x' y').run P w = .ok r w := by
  intro d
  induction d with
  | zero => intro t x y x' y' r _ _ h; cases h
  | succ d ih =>
    intro t x y x' y' r hx hy h
    unfold aEq at h
    split at h <;> try (cases h; done)
    rename_i info hi
    have hu := run_underlying_ty ok hi w
    have hund := (ok t info hi).und
    split at h <;> try (cases h; done)
    · rename_i a b hd
      cases h; cases hx; cases hy
      simp [Op.equalIn, hu, hd]
    · rename_i k a k' b hd
      split at h <;> try (cases h; done)
      rename_i hk
      cases h; cases hx; cases hy
      simp [Op.equalIn, hu, hd, hk]
    · rename_i a b hd
      cases h; cases hx; cases hy
      simp [Op.equalIn, hu, hd]
    · rename_i fs xs ys hd
      split at h <;> try (cases h; done)
      rename_i he
      cases hx with
      | agg _ xs' hxx =>
        cases hy with
        | agg _ ys' hyy =>
          have hf : P.fieldsOf t = fs := by simp [Program.fieldsOf, hund, hd]
          rw [run_equalIn_struct w d t xs' ys' (by rw [hf, hund, hd]) (hok t he).1, hf]
          exact aEqs_sound ok (fun t x y x' y' r h1 h2 h3 => ih t x y x' y' r h1 h2 h3) hxx hyy _ _ h
    · rename_i e hd
      cases h; cases hx; cases hy
      simp [Op.equalIn, hu, hd]
    · rename_i e a hd
      cases h; cases hx; cases hy
      simp [Op.equalIn, hu, hd]
    · rename_i e a hd
      cases h; cases hx; cases hy
      simp [Op.equalIn, hu, hd]
    · rename_i e b o b' o' hd
      split at h <;> try (cases h; done)
      rename_i yy hyy
      split at h <;> try (cases h; done)
      rename_i hc
      cases h
      obtain ⟨rfl, hs⟩ := hc
      cases hx with
      | ptr _ _ i hσ =>
        cases hy with
        | ptr _ _ j hσ' =>
          rw [hσ] at hσ'; cases hσ'
          have hz := run_sizeOf_ty ok hyy w
          have : ((⟨i.blk, i.base + o, none⟩ : Addr) == ⟨i.blk, i.base + o', none⟩) = (o == o') := by
            by_cases e : o = o'
            · subst e; simp
            · have h1 : (o == o') = false := by simpa using e
              rw [h1]
              simp
              omega
          simp [Op.equalIn, hu, hd, hz, hs, sameAddr, this]
    · rename_i e l c b l' c' hd
      cases h; cases hx
      cases hy <;> simp [Op.equalIn, hu, hd]
    · rename_i e a l c l' c' hd
      cases h
      cases hy
      cases hx <;> simp [Op.equalIn, hu, hd]
    · rename_i k e b hd
      cases h; cases hx
      cases hy <;> simp [Op.equalIn, hu, hd]
    · rename_i k e b hd
      cases h; cases hy
      cases hx <;> simp [Op.equalIn, hu, hd]
    · rename_i a b c hd
      cases h; cases hx; cases hy
      simp [Op.equalIn, hu, hd]
    · rename_i a b c f g k hd
      cases h; cases hx; cases hy
      simp [Op.equalIn, hu, hd]
    · rename_i a b c f g k hd
      cases h; cases hx; cases hy
      simp [Op.equalIn, hu, hd]
    · rename_i ms t' v hd
      cases h; cases hx; cases hy
      simp [Op.equalIn, hu, hd]
    · rename_i ms t' v hd
      cases h; cases hx; cases hy
      simp [Op.equalIn, hu, hd]

def intBin (op : BinOp) (k k' : IntKind) (a b : Int) : Option Value :=
  match op with
  | .shl => if b < 0 then none else some (.int k (k.wrap (a * 2 ^ (min b.toNat k.bits))))
  | .shr => if b < 0 then none else some (.int k (a.fdiv (2 ^ (min b.toNat k.bits))))
  | op =>
    if k ≠ k' then none else
    match op with
    | .add => some (.int k (k.wrap (a + b)))
    | .sub => some (.int k (k.wrap (a - b)))
    | .mul => some (.int k (k.wrap (a * b)))
    | .quo => if b = 0 then none else some (.int k (k.wrap (a.tdiv b)))
    | .rem => if b = 0 then none else some (.int k (a.tmod b))
    | .and => some (.int k (k.wrap (BitVec.ofInt k.bits a &&& BitVec.ofInt k.bits b).toNat))
    | .or => some (.int k (k.wrap (BitVec.ofInt k.bits a ||| BitVec.ofInt k.bits b).toNat))
    | .xor => some (.int k (k.wrap (BitVec.ofInt k.bits a ^^^ BitVec.ofInt k.bits b).toNat))
    | .andNot => some (.int k (k.wrap (BitVec.ofInt k.bits a &&& ~~~BitVec.ofInt k.bits b).toNat))
    | .eql => some (.bool (a == b))
    | .neq => some (.bool (a != b))
    | .lss => some (.bool (a < b))
    | .leq => some (.bool (a ≤ b))
    | .gtr => some (.bool (a > b))
    | .geq => some (.bool (a ≥ b))
    | _ => none

theorem intBin_sound {op : BinOp} {k k' : IntKind} {a b : Int} {v : Value} (t : TypeId) (h : intBin op k k' a b = some v) :
    binOp op t (.int k a) (.int k' b) = pure v ∧ ∀ σ, VR σ v v := by
  unfold intBin at h
  split at h
  · split at h <;> try (cases h; done)
    rename_i hb
    cases h
    exact ⟨by simp only [binOp, Op.shift, if_neg hb], fun σ => .int _ _⟩
  · split at h <;> try (cases h; done)
    rename_i hb
    cases h
    exact ⟨by simp only [binOp, Op.shift, if_neg hb], fun σ => .int _ _⟩
  · rename_i h1 h2
    split at h <;> try (cases h; done)
    rename_i hk
    have hk' : k = k' := by simpa using hk
    subst hk'
    cases op <;> simp at h h1 h2 <;> first
      | (subst h; exact ⟨by simp [binOp, Op.intArith, Op.intBits, Op.intCmp], fun σ => by first | exact .int _ _ | exact .bool _⟩)
      | (obtain ⟨hb, rfl⟩ := h; exact ⟨by simp [binOp, Op.intDiv, hb], fun σ => .int _ _⟩)

def strBin (op : BinOp) (x y : ByteArray) : Option Value :=
  match op with
  | .add => if x.size + y.size ≤ 9223372036854775807 then some (.string (x ++ y)) else none
  | .eql => some (.bool (x.toList == y.toList))
  | .neq => some (.bool !(x.toList == y.toList))
  | .lss => some (.bool (Op.bytesLess x.toList y.toList))
  | .leq => some (.bool (Op.bytesLess x.toList y.toList || x.toList == y.toList))
  | .gtr => some (.bool !(Op.bytesLess x.toList y.toList || x.toList == y.toList))
  | .geq => some (.bool !(Op.bytesLess x.toList y.toList))
  | _ => none

theorem strBin_sound {op : BinOp} {x y : ByteArray} {v : Value} (t : TypeId) (h : strBin op x y = some v) :
    binOp op t (.string x) (.string y) = pure v ∧ ∀ σ, VR σ v v := by
  cases op <;> simp [strBin] at h <;> first
    | (subst h; exact ⟨by simp [binOp, Op.stringOp], fun σ => .bool _⟩)
    | (obtain ⟨hb, rfl⟩ := h
       refine ⟨?_, fun σ => .string _⟩
       have h2 : ¬ (9223372036854775807 : Int) < (x.size : Int) + (y.size : Int) := by omega
       simp [binOp, Op.stringOp, h2])

/-- Two operands. -/
def aBin (ty : TyT) (eqOk : TypeId → Bool) (op : BinOp) (t : TypeId) (x y : Value) : Option Value :=
  match x, y with
  | .int k a, .int k' b => intBin op k k' a b
  | .string a, .string b => strBin op a b
  | .float k a, .float k' b => (pureOf (binOp op t (.float k a) (.float k' b))).bind fun v => if selfRel 0 v then some v else none
  | x, y =>
    match op with
    | .eql => (aEq ty eqOk 10000 t x y).map .bool
    | .neq => (aEq ty eqOk 10000 t x y).map fun b => .bool !b
    | _ => none

def samePair : Value → Value → Bool
  | .int _ _, .int _ _ | .float _ _, .float _ _ | .complex _ _ _, .complex _ _ _ | .string _, .string _ => true
  | _, _ => false

theorem binOp_eql {t : TypeId} {x y : Value} (h : samePair x y = false) : binOp .eql t x y = (do pure (.bool (← Op.equal t x y))) := by
  cases x <;> cases y <;> first | rfl | (cases h)

theorem binOp_neq {t : TypeId} {x y : Value} (h : samePair x y = false) : binOp .neq t x y = (do pure (.bool (!(← Op.equal t x y)))) := by
  cases x <;> cases y <;> first | rfl | (cases h)

theorem VR.samePair {x x' y y' : Value} (hx : VR σ x x') (hy : VR σ y y') (h : samePair x y = false) (hx0 : x ≠ .chan none) (hy0 : y ≠ .chan none) : samePair x' y' = false := by
  cases hx <;> first | exact absurd rfl hx0 | (cases hy <;> first | exact absurd rfl hy0 | rfl | exact h)

theorem aEq_not_any {eqOk : TypeId → Bool} {d : Nat} {t : TypeId} {x y : Value} {r : Bool} (h : aEq ty eqOk d t x y = some r) : x ≠ .chan none ∧ y ≠ .chan none := by
  cases d with
  | zero => cases h
  | succ d =>
    unfold aEq at h
    split at h <;> try (cases h; done)
    constructor
    · rintro rfl
      split at h <;> first | (cases h; done) | simp_all
    · rintro rfl
      split at h <;> first | (cases h; done) | simp_all

theorem aEq_agg {eqOk : TypeId → Bool} {d : Nat} {t : TypeId} {xs ys : Array Value} {r : Bool} (h : aEq ty eqOk d t (.agg xs) (.agg ys) = some r) : eqOk t = true := by
  cases d with
  | zero => cases h
  | succ d =>
    unfold aEq at h
    cases hi : ty t with
    | none => rw [hi] at h; cases h
    | some info =>
      rw [hi] at h
      simp only at h
      cases hd : info.desc <;> rw [hd] at h <;> first | (cases h; done) | skip
      simp only at h
      split at h
      · assumption
      · cases h

theorem eqGuard_run (ok : TyOk P ty) {eqOk : TypeId → Bool} (hok : EqOk P eqOk) {d : Nat} {t : TypeId} {x y x' y' : Value} {r : Bool} (op : BinOp) (ox oy : Operand) (hx : VR σ x x') (hy : VR σ y y')
    (h : aEq ty eqOk d t x y = some r) : (eqGuard op t ox oy x' y').run P w = .ok () w := by
  obtain ⟨h1, h2⟩ := aEq_not_any h
  cases hx with
  | any => exact absurd rfl h1
  | agg c c' hc =>
    cases hy with
    | agg e e' he =>
      have := (hok t (aEq_agg h)).2
      cases op <;> first | rfl | simp [eqGuard, this]
    | any => exact absurd rfl h2
    | _ => unfold eqGuard; split <;> rfl
  | nilIface =>
    cases hy with
    | iface => rw [eqGuard_nil_iface]; rfl
    | any => exact absurd rfl h2
    | nilIface =>
      cases d with
      | zero => cases h
      | succ d =>
        unfold aEq at h
        split at h <;> try (cases h; done)
        split at h <;> first | (cases h; done) | simp_all
    | _ => unfold eqGuard; split <;> rfl
  | _ => unfold eqGuard; split <;> first | rfl | (split <;> rfl)

theorem aBin_sound (ok : TyOk P ty) {eqOk : TypeId → Bool} (hok : EqOk P eqOk) {op : BinOp} {t : TypeId} {x y x' y' v : Value} (ox oy : Operand) (hx : VR σ x x') (hy : VR σ y y')
    (h : aBin ty eqOk op t x y = some v) : ((do eqGuard op t ox oy x' y'; binOp op t x' y') : Sem Value).run P w = .ok v w ∧ VR σ v v := by
  unfold aBin at h
  split at h
  · rename_i k a k' b
    cases hx; cases hy
    obtain ⟨h1, h2⟩ := intBin_sound t h
    exact ⟨by rw [eqGuard_at_int, h1]; rfl, h2 σ⟩
  · cases hx; cases hy
    obtain ⟨h1, h2⟩ := strBin_sound t h
    exact ⟨by rw [eqGuard_at_string, h1]; rfl, h2 σ⟩
  · cases hx; cases hy
    rw [Option.bind_eq_some_iff] at h
    obtain ⟨u, h1, h2⟩ := h
    split at h2 <;> try (cases h2; done)
    rename_i hs
    cases h2
    refine ⟨?_, selfRel_VR 0 _ hs⟩
    rw [eqGuard_at_float]
    have := pureOf_run (P := P) h1 w
    simpa using this
  · rename_i n1 n2 n3
    have key : ∀ b, aEq ty eqOk 10000 t x y = some b → samePair x' y' = false ∧ (eqGuard op t ox oy x' y').run P w = .ok () w ∧ (Op.equal t x' y').run P w = .ok b w := by
      intro b hb
      obtain ⟨h1, h2⟩ := aEq_not_any hb
      refine ⟨VR.samePair hx hy ?_ h1 h2, eqGuard_run ok hok op ox oy hx hy hb, aEq_sound ok hok _ _ _ _ _ _ _ hx hy hb⟩
      cases x <;> cases y <;> first
        | rfl
        | exact (n1 _ _ _ _ rfl rfl).elim
        | exact (n2 _ _ rfl rfl).elim
        | exact (n3 _ _ _ _ rfl rfl).elim
        | (cases hx)
    split at h <;> try (cases h; done)
    · rw [Option.map_eq_some_iff] at h
      obtain ⟨b, hb, rfl⟩ := h
      obtain ⟨h1, h2, h3⟩ := key b hb
      exact ⟨by rw [binOp_eql h1]; simp [h2, h3], .bool _⟩
    · rw [Option.map_eq_some_iff] at h
      obtain ⟨b, hb, rfl⟩ := h
      obtain ⟨h1, h2, h3⟩ := key b hb
      exact ⟨by rw [binOp_neq h1]; simp [h2, h3], .bool _⟩

end Go.Am
