/- Part of the proof: an abstract machine of our own over the model; no condition. -/
import Derived.Test.YtdicnaninnmoeaaGreatAmW
set_option linter.unusedSectionVars false
set_option linter.unusedSimpArgs false
set_option linter.unusedVariables false
set_option linter.unnecessarySimpa false
/- The abstract machine, part X: what a call left behind is let go; small laws for walks. -/
namespace Go.Am
open Go
variable [F : Fr]

/-! back to the old map of blocks -/

theorem Le.same {σ σ' : Sig} (hle : Le σ σ') {b : Nat} {i i' : Img} (h : σ b = some i) (h' : σ' b = some i') : i = i' := by
  have := hle _ _ h
  rw [h'] at this
  cases this; rfl

mutual
theorem VR.back {σ σ' : Sig} (hle : Le σ σ') : ∀ {v v0 v' : Value}, VR σ v v0 → VR σ' v v' → VR σ v v'
  | _, _, _, .any _ _, .any k n => .any k n
  | _, _, _, .bool _, .bool _ => .bool _
  | _, _, _, .int _ _, .int _ _ => .int _ _
  | _, _, _, .float _ _, .float _ _ => .float _ _
  | _, _, _, .string _, .string _ => .string _
  | _, _, _, .pnil, .pnil => .pnil
  | _, _, _, .ptr _ _ _ h, .ptr _ _ i h' => .ptr _ _ i (by rw [← hle.same h h']; exact h)
  | _, _, _, .snil, .snil => .snil
  | _, _, _, .slice _ _ _ _ _ _ h _ _ _, .slice _ _ _ _ cap' i h' hc hl hs => .slice _ _ _ _ cap' i (by rw [← hle.same h h']; exact h) hc hl hs
  | _, _, _, .slice _ _ _ _ _ _ h _ _ _, .slice0 _ _ o' _ i h' hc => .slice0 _ _ o' _ i (by rw [← hle.same h h']; exact h) hc
  | _, _, _, .slice0 _ _ _ _ _ h _, .slice _ _ _ _ cap' i h' hc hl hs => .slice _ _ _ _ cap' i (by rw [← hle.same h h']; exact h) hc hl hs
  | _, _, _, .slice0 _ _ _ _ _ h _, .slice0 _ _ o' _ i h' hc => .slice0 _ _ o' _ i (by rw [← hle.same h h']; exact h) hc
  | _, _, _, .mnil, .mnil => .mnil
  | _, _, _, .map _ _ h, .map _ i h' => .map _ i (by rw [← hle.same h h']; exact h)
  | _, _, _, .func _ _ _ _ _ hf hc, .func _ _ _ _ _ hf' hc' => .func _ _ _ _ _ (hf.back hle hf') (hc.back hle hc')
  | _, _, _, .nilFunc, .nilFunc => .nilFunc
  | _, _, _, .nilIface, .nilIface => .nilIface
  | _, _, _, .iface _ _ _ h, .iface _ _ _ h' => .iface _ _ _ (h.back hle h')
  | _, _, _, .agg _ _ h, .agg _ _ h' => .agg _ _ (h.back hle h')
  | _, _, _, .tuple _ _ h, .tuple _ _ h' => .tuple _ _ (h.back hle h')
theorem VRs.back {σ σ' : Sig} (hle : Le σ σ') : ∀ {v v0 v' : List Value}, VRs σ v v0 → VRs σ' v v' → VRs σ v v'
  | _, _, _, .nil, .nil => .nil
  | _, _, _, .cons h hs, .cons h' hs' => .cons (h.back hle h') (hs.back hle hs')
end

theorem MR.back {σ σ' : Sig} (hle : Le σ σ') : ∀ {l l0 l'}, MR σ l l0 → MR σ' l l' → MR σ l l'
  | _, _, _, .nil, .nil => .nil
  | _, _, _, .cons hk hv h, .cons hk' hv' h' => .cons (hk.back hle hk') (hv.back hle hv') (h.back hle h')

theorem BR.back {P : Program} {σ σ' : Sig} (hle : Le σ σ') {i : Img} {bl : Blk} {o o' : Option Obj} (h : BR P σ i bl o) (h' : BR P σ' i bl o') : BR P σ i bl o' := by
  cases bl with
  | cells cs e =>
    cases o' with
    | none => exact h'.elim
    | some o' =>
      cases o' <;> try exact h'.elim
      obtain ⟨h1, h2, h3, h4, h5, h6⟩ := h'
      cases o with
      | none => exact h.elim
      | some o =>
        cases o <;> try exact h.elim
        obtain ⟨g1, g2, g3, g4, g5, g6⟩ := h
        exact ⟨h1, h2, h3, h4, g5.back hle h5, h6⟩
  | map es =>
    cases o' with
    | none => exact h'.elim
    | some o' =>
      cases o' <;> try exact h'.elim
      cases o with
      | none => exact h.elim
      | some o =>
        cases o <;> try exact h.elim
        exact MR.back hle h h'
  | ro cs e =>
    cases o' with
    | none => exact h'.elim
    | some o' =>
      cases o' <;> try exact h'.elim
      obtain ⟨h2, h3, h4, h5, h6⟩ := h'
      cases o with
      | none => exact h.elim
      | some o =>
        cases o <;> try exact h.elim
        obtain ⟨g2, g3, g4, g5, g6⟩ := h
        exact ⟨h2, h3, h4, g5.back hle h5, h6⟩

theorem HR.back {P : Program} {σ σ' : Sig} {H H' : AH} {w w' : World} (hle : Le σ σ') (h : HR P σ H w) (h' : HR P σ' H' w') (hk : ∀ b bl, H.get b = some bl → H'.get b = some bl) : HR P σ H w' := by
  refine ⟨fun b bl hb => ?_, h.inj, h.fresh, h'.kept, h.apart, h'.same⟩
  obtain ⟨i, hi, hB⟩ := h.live b bl hb
  exact ⟨i, hi, hB.back hle (h'.at (hk b bl hb) (hle _ _ hi))⟩

/-! what is kept of a heap -/

def Keep (H H' : AH) : Prop := H.next ≤ H'.next ∧ ∀ b, b < H.next → H'.get b = H.get b

theorem Keep.refl (H : AH) : Keep H H := ⟨Nat.le_refl _, fun _ _ => rfl⟩

theorem Keep.push {H H' : AH} (h : Keep H H') (bl : Blk) : Keep H (H'.push bl) := by
  refine ⟨Nat.le_trans h.1 (by simp [AH.push]), fun b hb => ?_⟩
  rw [AH.get_push_ne _ _ _ (by have := h.1; omega)]
  exact h.2 b hb

/-- A call that answers, and leaves what was there as it was: what it made besides is let go. -/
theorem ACalls_pure {P : Program} {g : FuncId} {args : List Value} {H : AH} {v : Value} {R : Ending → AH → Prop} (hs : selfRel 3 v = true)
    (h : ACalls P g args H fun e H' => e = .returned v ∧ Keep H H') (hR : R (.returned v) H) : ACalls P g args H R := by
  intro σ w args' hr hargs
  refine (h σ w args' hr hargs).mono ?_
  rintro e' w' ⟨σ', e, H', hle, hr', he, rfl, hk⟩
  cases he with
  | returned _ v' hv => exact ⟨σ, _, H, Le.refl _, hr.back hle hr' (fun b bl hb => by rw [hk.2 b (hr.lt hb)]; exact hb), .returned _ _ ((selfRel_VR 3 v hs).back hle hv), hR⟩

theorem PureC_of {P : Program} {g : FuncId} {args : List Value} {v : Value} (hs : selfRel 3 v = true)
    (h : ∀ H, ACalls P g args H fun e H' => e = .returned v ∧ Keep H H') : PureC P g args v :=
  fun H _ hR => ACalls_pure hs (h H) hR

theorem put_n (a : AAct) (d : Option Tmp) (v : Value) : (a.put d v).n = a.n := by cases d <;> rfl
theorem put_tmps (a : AAct) (d : Tmp) (v : Value) (t : Nat) : (a.put (some d) v).tmps t = if t = d then some v else a.tmps t := rfl
theorem put_none (a : AAct) (v : Value) : a.put none v = a := rfl
theorem put_defers (a : AAct) (d : Option Tmp) (v : Value) : (a.put d v).defers = a.defers := by cases d <;> rfl

def pur0 : PureF := fun _ _ => none
theorem pur0_ok {P : Program} : PureOk P pur0 := fun _ _ _ h => by cases h

section
variable {ty : TyT} {eqOk : TypeId → Bool} {t : TypeId}

theorem wrap_u64 (n : Nat) : IntKind.u64.wrap (n : Int) = ((n % 18446744073709551616 : Nat) : Int) := by
  simp [IntKind.wrap, IntKind.bits, IntKind.signed]
theorem wrap_u8 (n : Nat) : IntKind.u8.wrap (n : Int) = ((n % 256 : Nat) : Int) := by
  simp [IntKind.wrap, IntKind.bits, IntKind.signed]
theorem wrap_u32 (n : Nat) : IntKind.u32.wrap (n : Int) = ((n % 4294967296 : Nat) : Int) := by
  simp [IntKind.wrap, IntKind.bits, IntKind.signed]

/-- A string, out of a list. -/
def str (l : List UInt8) : Value := .string ⟨l.toArray⟩

theorem str_def (l : List UInt8) : Value.string ⟨l.toArray⟩ = str l := rfl

theorem bytesOf_cons (n : Int) (l : List Value) : bytesOf (.int .u8 n :: l) = (bytesOf l).map fun s => ⟨#[UInt8.ofNat n.toNat] ++ s.data⟩ := rfl

theorem bytesOf_one (n : Int) : bytesOf [.int .u8 n] = some ⟨[UInt8.ofNat n.toNat].toArray⟩ := rfl

theorem str_add (a b : List UInt8) (h : a.length + b.length ≤ 9223372036854775807) : aBin ty eqOk .add t (str a) (str b) = some (str (a ++ b)) := by
  have e : (⟨a.toArray⟩ : ByteArray) ++ ⟨b.toArray⟩ = ⟨(a ++ b).toArray⟩ := by
    apply ByteArray.ext
    rw [ByteArray.data_append]
    simp
  have hs : ∀ l : List UInt8, (⟨l.toArray⟩ : ByteArray).size = l.length := fun l => rfl
  simp only [str, aBin, strBin, hs, if_pos h, e]

theorem selfRel_str (n : Nat) (l : List UInt8) : selfRel n (str l) = true := by unfold str; cases n <;> rfl

theorem u8_wrap (n : Nat) : UInt8.ofNat (IntKind.u8.wrap (n : Int)).toNat = UInt8.ofNat n := by
  rw [wrap_u8, Int.toNat_natCast]
  apply UInt8.toNat_inj.1
  simp

theorem u8_mod64 (n : Nat) : UInt8.ofNat (n % 18446744073709551616) = UInt8.ofNat n := by
  apply UInt8.toNat_inj.1
  simp

theorem lit_add (a : Nat) (m : Nat) : (OfNat.ofNat (a + 2) : Int) + (m : Int) = ((OfNat.ofNat (a + 2) + m : Nat) : Int) := by
  simp

theorem tdiv_128 (x : Nat) : (x : Int).tdiv 128 = ((x / 128 : Nat) : Int) := rfl
theorem tmod_128 (x : Nat) : (x : Int).tmod 128 = ((x % 128 : Nat) : Int) := rfl
theorem tdiv_256 (x : Nat) : (x : Int).tdiv 256 = ((x / 256 : Nat) : Int) := rfl
theorem tmod_256 (x : Nat) : (x : Int).tmod 256 = ((x % 256 : Nat) : Int) := rfl

theorem aBin_int (op : BinOp) (k k' : IntKind) (a b : Int) : aBin ty eqOk op t (.int k a) (.int k' b) = intBin op k k' a b := rfl


theorem aBuildSlice_one {H : AH} {e : TypeId} {x y : Ty} (hx : ty t = some x) (hd : x.desc = .slice e) (hy : ty e = some y) (h1 : y.size = 1) {v : Value} (hc : v.cells = #[v])
    (ho : v.oneCell' = true) : aBuildSlice ty H t 1 #[(0, v)] = some (.slice (some ⟨H.next, 0, none⟩) 1 1, H.push (.cells [v] e)) := by
  have hz : (zeroRow y 1).size = 1 := by simp [zeroRow]
  obtain ⟨z, hz'⟩ : ∃ z, zeroRow y 1 = #[z] := by
    generalize zeroRow y 1 = a at hz
    obtain ⟨l⟩ := a
    match l, hz with
    | [z], _ => exact ⟨z, rfl⟩
  simp [aBuildSlice, hx, hd, hy, h1, hz', Instr.fill, hc, ho]


theorem aBin_feq (a b : Nat) : aBin ty eqOk .eql t (.float .f64 a) (.float .f64 b) = some (.bool (FloatKind.f64.format.order a b == some .eq)) := rfl
theorem aBin_fne (a b : Nat) : aBin ty eqOk .neq t (.float .f64 a) (.float .f64 b) = some (.bool (FloatKind.f64.format.order a b != some .eq)) := rfl
theorem aBin_flt (a b : Nat) : aBin ty eqOk .lss t (.float .f64 a) (.float .f64 b) = some (.bool (FloatKind.f64.format.order a b == some .lt)) := rfl
theorem aBin_fgt (a b : Nat) : aBin ty eqOk .gtr t (.float .f64 a) (.float .f64 b) = some (.bool (FloatKind.f64.format.order a b == some .gt)) := rfl
theorem aBin_fquo {a b r : Nat} (h : FloatKind.f64.format.div a b = some r) : aBin ty eqOk .quo t (.float .f64 a) (.float .f64 b) = some (.float .f64 r) := by
  simp only [aBin, binOp, Op.floatArith, h]
  rfl

end

/-! so that a tactic looks at what is taken, not at what is done with it, first -/

theorem bind_match {α β : Type} (x : Option α) (f : α → Option β) : x.bind f = match x with | some u => f u | none => none := by cases x <;> rfl
theorem map_match {α β : Type} (x : Option α) (f : α → β) : x.map f = match x with | some u => some (f u) | none => none := by cases x <;> rfl

/-! the literal nil -/

theorem nilC_tmp (t : Tmp) : isNilC (.tmp t) = false := rfl
theorem nilC_fn (f : FuncId) : isNilC (.func f) = false := rfl
theorem nilC_int (k : IntKind) (n : Int) : isNilC (.const (.int k n)) = false := rfl
theorem nilC_bool (b : Bool) : isNilC (.const (.bool b)) = false := rfl
theorem nilC_float (k : FloatKind) (b : Nat) : isNilC (.const (.float k b)) = false := rfl
theorem nilC_string (s : ByteArray) : isNilC (.const (.string s)) = false := rfl
theorem nilC_str (l : List UInt8) : isNilC (.const (str l)) = false := rfl
theorem nilC_ptr (p : Option Addr) : isNilC (.const (.pointer p)) = false := rfl
theorem nilC_slice (p : Option Addr) (n m : Nat) : isNilC (.const (.slice p n m)) = false := rfl
theorem nilC_map (p : Option Nat) : isNilC (.const (.map p)) = false := rfl
theorem nilC_func : isNilC (.const .nilFunc) = false := rfl
theorem nilC_iface : isNilC (.const .nilIface) = true := rfl

/-! cells -/

theorem oc_int (k : IntKind) (n : Int) : (Value.int k n).oneCell' = true := rfl
theorem oc_bool (b : Bool) : (Value.bool b).oneCell' = true := rfl
theorem oc_float (k : FloatKind) (b : Nat) : (Value.float k b).oneCell' = true := rfl
theorem oc_string (s : ByteArray) : (Value.string s).oneCell' = true := rfl
theorem oc_str (l : List UInt8) : (str l).oneCell' = true := rfl
theorem oc_ptr (p : Option Addr) : (Value.pointer p).oneCell' = true := rfl
theorem oc_slice (p : Option Addr) (n m : Nat) : (Value.slice p n m).oneCell' = true := rfl
theorem oc_map (p : Option Nat) : (Value.map p).oneCell' = true := rfl
theorem oc_func (f : Fn) (a b : Array Value) : (Value.func f a b).oneCell' = true := rfl
theorem oc_nilFunc : Value.nilFunc.oneCell' = true := rfl
theorem oc_nilIface : Value.nilIface.oneCell' = true := rfl
theorem oc_iface (t : TypeId) (v : Value) : (Value.iface t v).oneCell' = true := rfl

theorem cells_int (k : IntKind) (n : Int) : (Value.int k n).cells = #[.int k n] := rfl
theorem cells_bool (b : Bool) : (Value.bool b).cells = #[.bool b] := rfl
theorem cells_float (k : FloatKind) (b : Nat) : (Value.float k b).cells = #[.float k b] := rfl
theorem cells_string (s : ByteArray) : (Value.string s).cells = #[.string s] := rfl
theorem cells_str (l : List UInt8) : (str l).cells = #[str l] := rfl
theorem cells_ptr (p : Option Addr) : (Value.pointer p).cells = #[.pointer p] := rfl
theorem cells_slice (p : Option Addr) (n m : Nat) : (Value.slice p n m).cells = #[.slice p n m] := rfl
theorem cells_map (p : Option Nat) : (Value.map p).cells = #[.map p] := rfl
theorem cells_func (f : Fn) (a b : Array Value) : (Value.func f a b).cells = #[.func f a b] := rfl
theorem cells_nilFunc : Value.nilFunc.cells = #[.nilFunc] := rfl
theorem cells_nilIface : Value.nilIface.cells = #[.nilIface] := rfl
theorem cells_iface (t : TypeId) (v : Value) : (Value.iface t v).cells = #[.iface t v] := rfl
theorem cells_agg (c : Array Value) : (Value.agg c).cells = c := rfl

/-! strings -/

section
variable {ty : TyT} {H : AH} {t : TypeId} {d : Ty}

theorem str_size (l : List UInt8) : (⟨l.toArray⟩ : ByteArray).size = l.length := rfl

theorem str_extract (l : List UInt8) (a b : Nat) : (⟨l.toArray⟩ : ByteArray).extract a b = ⟨((l.take b).drop a).toArray⟩ := by
  apply ByteArray.ext
  rw [ByteArray.data_extract]
  simp only [List.extract_toArray, List.extract_eq_drop_take']

theorem aLen_str (ht : ty t = some d) (hd : d.desc = .string) (l : List UInt8) : aLen ty H t (str l) = some (.int .i64 l.length) := by
  simp only [aLen, ht, hd, str, str_size]

theorem aSlice_str_lo (ht : ty t = some d) (hd : d.desc = .string) {l : List UInt8} {n : Nat} (h : n ≤ l.length) :
    aSlice ty H t (str l) (some (.int .i64 (n : Int))) none none = some (str (l.drop n)) := by
  have h0 : (0 : Int) ≤ n ∧ (n : Int) ≤ (l.length : Int) := by omega
  simp [aSlice, ht, hd, str, str_size, bound, intOf?, h, str_extract]

theorem aSlice_str_hi (ht : ty t = some d) (hd : d.desc = .string) {l : List UInt8} {n : Nat} (h : n ≤ l.length) :
    aSlice ty H t (str l) none (some (.int .i64 (n : Int))) none = some (str (l.take n)) := by
  simp [aSlice, ht, hd, str, str_size, bound, intOf?, h, str_extract]

theorem aIndex_str (ht : ty t = some d) (hd : d.desc = .string) {l : List UInt8} {i : Nat} {b : UInt8} (h : l[i]? = some b) :
    aIndex ty t (str l) (.int .i64 (i : Int)) = some (.int .u8 b.toNat) := by
  have hb : (⟨l.toArray⟩ : ByteArray)[i]? = some b := by
    rw [List.getElem?_eq_some_iff] at h
    obtain ⟨hi, hb⟩ := h
    have hs : i < (⟨l.toArray⟩ : ByteArray).size := hi
    rw [getElem?_pos _ i hs]
    rw [← hb]
    rfl
  simp [aIndex, ht, hd, str, intOf?, hb]

end

theorem AH.get_push (H : AH) (x : Blk) (k : Nat) : (H.push x).get k = if k = H.next then some x else H.get k := by
  split
  · rename_i h; subst h; exact AH.get_push_same H x
  · rename_i h; exact AH.get_push_ne H k x h

theorem AH.get_set (H : AH) (b : Nat) (x : Option Blk) (k : Nat) : (H.set b x).get k = if k = b then x else H.get k := by
  split
  · rename_i h; subst h; exact AH.get_set_same H k x
  · rename_i h; exact AH.get_set_ne H b k x h

theorem Keep.set {H H' : AH} (h : Keep H H') (b : Nat) (x : Option Blk) (hb : H.next ≤ b) : Keep H (H'.set b x) := by
  refine ⟨by rw [AH.next_set]; exact h.1, fun k hk => ?_⟩
  rw [AH.get_set_ne _ _ _ _ (by omega)]
  exact h.2 k hk

theorem Keep.trans {H H' H'' : AH} (h : Keep H H') (h' : Keep H' H'') : Keep H H'' :=
  ⟨Nat.le_trans h.1 h'.1, fun b hb => by rw [h'.2 b (Nat.lt_of_lt_of_le hb h.1), h.2 b hb]⟩

/-! answers by kind of function -/

def altP (p q : PureF) : PureF := fun g args =>
  match p g args with
  | some v => some v
  | none => q g args

theorem altP_ok {P : Program} {p q : PureF} (hp : PureOk P p) (hq : PureOk P q) : PureOk P (altP p q) := by
  intro g args v h
  unfold altP at h
  split at h
  · rename_i u hu
    cases h
    exact hp _ _ _ hu
  · exact hq _ _ _ h

end Go.Am
