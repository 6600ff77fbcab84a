/- Part of the proof: an abstract machine of our own over the model; no condition. -/
import Derived.Test.YtdicnaninnmoeaaGreatAmX2
set_option linter.unusedSectionVars false
set_option linter.unusedSimpArgs false
set_option linter.unusedVariables false
set_option linter.unnecessarySimpa false
/- Small laws for walks: bytes, nil, what is kept but for some blocks. -/
namespace Go.Am
open Go
variable [F : Fr]

theorem Tr.put_put {α : Type} : ∀ (f : Nat) (t : Tr α) (k : Nat) (x y : Option α), Tr.put f (Tr.put f t k x) k y = Tr.put f t k y := by
  intro f
  induction f with
  | zero => intro t k x y; rfl
  | succ f ih =>
    intro t k x y
    cases t with
    | e =>
      cases h0 : Nat.beq k 0 with
      | true => simp only [Tr.put, h0]
      | false => cases h1 : Nat.beq (k % 2) 1 with
        | true => simp only [Tr.put, h0, h1, ih]
        | false => simp only [Tr.put, h0, h1, ih]
    | n l v r =>
      cases h0 : Nat.beq k 0 with
      | true => simp only [Tr.put, h0]
      | false => cases h1 : Nat.beq (k % 2) 1 with
        | true => simp only [Tr.put, h0, h1, ih]
        | false => simp only [Tr.put, h0, h1, ih]

theorem AH.set_set (H : AH) (b : Nat) (x y : Option Blk) : (H.set b x).set b y = H.set b y := by
  simp only [AH.set, Tr.put_put]

def u8s (l : List UInt8) : List Value := l.map fun x => .int .u8 (x.toNat : Int)

theorem u8s_length (l : List UInt8) : (u8s l).length = l.length := by simp [u8s]

theorem u8s_append (a b : List UInt8) : u8s (a ++ b) = u8s a ++ u8s b := by simp [u8s]

theorem u8s_get {l : List UInt8} {i : Nat} {x : UInt8} (h : l[i]? = some x) : (u8s l)[i]? = some (.int .u8 (x.toNat : Int)) := by simp [u8s, h]

theorem u8s_oc (l : List UInt8) : (u8s l).all (·.oneCell') = true := by simp [u8s, List.all_eq_true, Value.oneCell']

theorem strCells_str (l : List UInt8) : strCells ⟨l.toArray⟩ = u8s l := rfl

theorem bytesOf_u8s (l : List UInt8) : bytesOf (u8s l) = some ⟨l.toArray⟩ := by
  induction l with
  | nil => rfl
  | cons x l ih =>
    have : u8s (x :: l) = .int .u8 (x.toNat : Int) :: u8s l := rfl
    rw [this, bytesOf_cons, ih]
    simp

/-- Bytes, somewhere in a heap. -/
def BytesV (H : AH) (v : Value) (l : List UInt8) : Prop :=
  (v = .slice none 0 0 ∧ l = []) ∨ ∃ b o cap cs, v = .slice (some ⟨b, o, none⟩) l.length cap ∧ (H.get b = some (.cells cs 5) ∨ ∃ e, H.get b = some (.ro cs e)) ∧ (cs.drop o).take l.length = u8s l ∧ o + l.length ≤ cs.length ∧ b < H.next

theorem BytesV.len {H : AH} {v : Value} {l : List UInt8} (h : BytesV H v l) : ∃ a cap, v = .slice a l.length cap := by
  rcases h with ⟨rfl, rfl⟩ | ⟨b, o, cap, cs, rfl, _⟩
  · exact ⟨_, _, rfl⟩
  · exact ⟨_, _, rfl⟩

/-- Kept, but for some blocks. -/
def KeepIf (p : Nat → Prop) (H H' : AH) : Prop := H.next ≤ H'.next ∧ ∀ b, b < H.next → ¬ p b → H'.get b = H.get b

theorem KeepIf.refl (p : Nat → Prop) (H : AH) : KeepIf p H H := ⟨Nat.le_refl _, fun _ _ _ => rfl⟩

theorem KeepIf.trans {p : Nat → Prop} {H H' H'' : AH} (h : KeepIf p H H') (h' : KeepIf p H' H'') : KeepIf p H H'' :=
  ⟨Nat.le_trans h.1 h'.1, fun b hb hp => by rw [h'.2 b (Nat.lt_of_lt_of_le hb h.1) hp]; exact h.2 b hb hp⟩

theorem KeepIf.weak {p q : Nat → Prop} {H H' : AH} (h : KeepIf p H H') (hq : ∀ b, b < H.next → p b → q b) : KeepIf q H H' :=
  ⟨h.1, fun b hb hn => h.2 b hb fun hp => hn (hq b hb hp)⟩

theorem Keep.toIf {p : Nat → Prop} {H H' : AH} (h : Keep H H') : KeepIf p H H' := ⟨h.1, fun b hb _ => h.2 b hb⟩

theorem KeepIf.toKeep {p : Nat → Prop} {H H' : AH} (h : KeepIf p H H') (hp : ∀ b, b < H.next → ¬ p b) : Keep H H' := ⟨h.1, fun b hb => h.2 b hb (hp b hb)⟩

theorem KeepIf.push {p : Nat → Prop} {H H' : AH} (h : KeepIf p H H') (bl : Blk) : KeepIf p H (H'.push bl) := by
  refine ⟨Nat.le_trans h.1 (by simp [AH.push]), fun b hb hp => ?_⟩
  rw [AH.get_push_ne _ _ _ (by have := h.1; omega)]
  exact h.2 b hb hp

theorem KeepIf.set {p : Nat → Prop} {H H' : AH} (h : KeepIf p H H') {c : Nat} (hc : p c ∨ H.next ≤ c) (x : Option Blk) : KeepIf p H (H'.set c x) := by
  refine ⟨h.1, fun b hb hp => ?_⟩
  rw [AH.get_set_ne _ _ _ _ (by rintro rfl; exact hc.elim hp fun hc => by omega)]
  exact h.2 b hb hp

theorem BytesV.keep {H H' : AH} {v : Value} {l : List UInt8} (h : BytesV H v l) (hk : Keep H H') : BytesV H' v l := by
  rcases h with h | ⟨b, o, cap, cs, h1, h2, h3, h4, h5⟩
  · exact .inl h
  · exact .inr ⟨b, o, cap, cs, h1, by rw [hk.2 b h5]; exact h2, h3, h4, Nat.lt_of_lt_of_le h5 hk.1⟩

section
variable {ty : TyT} {eqOk : TypeId → Bool} {H : AH} {t e : TypeId} {d y : Ty}

theorem eq_ptr_nil (ht : ty t = some d) (hd : d.desc = .pointer e) (a : Addr) : aBin ty eqOk .eql t (.pointer (some a)) (.pointer none) = some (.bool false) := by
  have : aEq ty eqOk (9999 + 1) t (.pointer (some a)) (.pointer none) = some false := by
    unfold aEq
    simp only [ht, hd]
  show (aEq ty eqOk (9999 + 1) t (.pointer (some a)) (.pointer none)).map Value.bool = _
  rw [this]; rfl

theorem eq_slice_nil (ht : ty t = some d) (hd : d.desc = .slice e) (a : Option Addr) (n c : Nat) : aBin ty eqOk .eql t (.slice a n c) (.slice none 0 0) = some (.bool a.isNone) := by
  have : aEq ty eqOk (9999 + 1) t (.slice a n c) (.slice none 0 0) = some a.isNone := by
    unfold aEq
    simp only [ht, hd]
    cases a <;> rfl
  show (aEq ty eqOk (9999 + 1) t (.slice a n c) (.slice none 0 0)).map Value.bool = _
  rw [this]; rfl

theorem eq_func_nil (ht : ty t = some d) {a b : Array TypeId} {c : Bool} (hd : d.desc = .func a b c) (f : Fn) (x y : Array Value) : aBin ty eqOk .eql t (.func f x y) .nilFunc = some (.bool false) := by
  have : aEq ty eqOk (9999 + 1) t (.func f x y) .nilFunc = some false := by
    unfold aEq
    simp only [ht, hd]
  show (aEq ty eqOk (9999 + 1) t (.func f x y) .nilFunc).map Value.bool = _
  rw [this]; rfl

theorem eq_iface_nil (ht : ty t = some d) {ms : Array (String × TypeId)} (hd : d.desc = .interface ms) (f : TypeId) (x : Value) : aBin ty eqOk .eql t (.iface f x) .nilIface = some (.bool false) := by
  have : aEq ty eqOk (9999 + 1) t (.iface f x) .nilIface = some false := by
    unfold aEq
    simp only [ht, hd]
  show (aEq ty eqOk (9999 + 1) t (.iface f x) .nilIface).map Value.bool = _
  rw [this]; rfl

theorem ne_ptr_same (ht : ty t = some d) (hd : d.desc = .pointer e) (hy : ty e = some y) (hs : y.size ≠ 0) (b o : Nat) :
    aBin ty eqOk .neq t (.pointer (some ⟨b, o, none⟩)) (.pointer (some ⟨b, o, none⟩)) = some (.bool false) := by
  have : aEq ty eqOk (9999 + 1) t (.pointer (some ⟨b, o, none⟩)) (.pointer (some ⟨b, o, none⟩)) = some true := by
    unfold aEq
    simp only [ht, hd, hy]
    simp [hs]
  show (aEq ty eqOk (9999 + 1) t (.pointer (some ⟨b, o, none⟩)) (.pointer (some ⟨b, o, none⟩))).map (fun b => Value.bool !b) = _
  rw [this]; rfl

theorem aSlice_mid (ht : ty t = some d) (hd : d.desc = .slice e) (hy : ty e = some y) {b o len cap lo hi : Nat} {cs : List Value} (hb : H.get b = some (.cells cs e)) (h1 : lo ≤ hi) (h2 : hi ≤ len) :
    aSlice ty H t (.slice (some ⟨b, o, none⟩) len cap) (some (.int .i64 (lo : Int))) (some (.int .i64 (hi : Int))) none =
      some (.slice (some ⟨b, o + lo * y.size, none⟩) (hi - lo) (if cap = unk then unk else cap - lo)) := by
  have c1 : (0 : Int) ≤ (lo : Int) ∧ (lo : Int) ≤ (hi : Int) := by omega
  have c2 : (0 : Int) ≤ (hi : Int) ∧ (hi : Int) ≤ (len : Int) := by omega
  simp [aSlice, ht, hd, hy, okBlk, hb, bound, intOf?, h1, h2]

theorem aConvert_bytes {s t' : TypeId} {d' : Ty} (hs : ty s = some d) (hds : d.desc = .slice e) (hy : ty e = some y) (hyd : y.desc = .int .u8) (ht : ty t' = some d') (hd : d'.desc = .string)
    {v : Value} {l : List UInt8} (h : BytesV H v l) : aConvert ty H s t' v = some (str l) := by
  rcases h with ⟨rfl, rfl⟩ | ⟨b, o, cap, cs, rfl, h2, h3, h4, h5⟩
  · simp only [aConvert, hs, ht, hds, hd, hy, hyd, if_true]; rfl
  · simp only [aConvert, hs, ht, hds, hd, hy, hyd]
    split
    · rename_i h0
      have : l = [] := List.length_eq_zero_iff.1 h0
      subst this; rfl
    · rcases h2 with h2 | ⟨_, h2⟩
      all_goals
        simp only [AH.load, h2]
        rw [if_pos h4, h3]
        simp only [Option.bind_some, bytesOf_u8s, Option.map_some]
        rfl

theorem appendBytes_nil (ht : ty t = some d) (hd : d.desc = .slice e) (hy : ty e = some y) (h1 : y.size = 1) (h2 : y.bytes ≤ 4096) (h3 : y.bytes ≠ 0) {a : Option Addr} {l : List UInt8} {v : Value}
    {b o c : Nat} {cs : List Value} (hv : v = .slice (some ⟨b, o, none⟩) l.length c) (hb : H.get b = some (.cells cs 5) ∨ ∃ e, H.get b = some (.ro cs e)) (hx : (cs.drop o).take l.length = u8s l) (hl : o + l.length ≤ cs.length)
    (hk2 : l.length ≤ 4294967296) (ha : a = none ∨ ∃ q, a = some ⟨q, 0, none⟩) :
    aAppend ty H t t (.slice a 0 0) v = if l.length = 0 then some (.slice a 0 0, H) else some (.slice (some ⟨H.next, 0, none⟩) l.length unk, H.push (.cells (u8s l) e)) := by
  have hap : appended H y d.desc v = some (l.length, u8s l) := by
    subst hv
    have hi : isIntD d.desc = false := by rw [hd]; rfl
    simp only [appended, hi, isStr, Bool.false_and, Bool.false_eq_true, if_false]
    cases hk : l.length with
    | zero =>
      have : l = [] := List.length_eq_zero_iff.1 hk
      subst this; rfl
    | succ k =>
      rw [hk] at hx hl
      rcases hb with hb | ⟨_, hb⟩
      all_goals
        simp only [srcCells, AH.load, hb, h1, Nat.mul_one]
        rw [if_pos hl, hx]
        rfl
  have c1 : ¬ (y.size = 0 ∨ 4096 < y.bytes ∨ y.bytes = 0) := by omega
  have c2 : ¬ 4294967296 < 0 + l.length := by omega
  unfold aAppend
  rw [hd] at hap
  simp only [ht, hd, hy, if_neg c1, hap, if_neg c2]
  split
  · rfl
  · rename_i h0
    rcases ha with rfl | ⟨q, rfl⟩
    · simp only [and_self, if_true]
    · have c4 : 0 ≠ unk ∧ 0 < 0 + l.length := ⟨by decide, by omega⟩
      rw [Nat.zero_add] at c4
      simp only [Nat.zero_add, if_pos c4, if_true, List.nil_append]

end

/-- A call that reads, and answers. -/
def HPure (P : Program) (g : FuncId) (args : List Value) (H : AH) (v : Value) : Prop := ∀ R : Ending → AH → Prop, R (.returned v) H → ACalls P g args H R

theorem HPure_of {P : Program} {g : FuncId} {args : List Value} {H : AH} {v : Value} (hs : selfRel 3 v = true) (h : ACalls P g args H fun e H' => e = .returned v ∧ Keep H H') : HPure P g args H v :=
  fun _ hR => ACalls_pure hs h hR

section
variable {P : Program} {E : Env P} {fns : FnT} {pur : PureF} {pls : Plans} {k : Kont} {a : AAct} {H : AH}

theorem CallK_pure {g : FuncId} {args : List Value} {ops : Array Oper} {rest : List Oper} {d : Option Tmp} {v : Value} (h : HPure P g args H v)
    (hk : WLK E fns pur pls ops k rest (a.put d v) H) : CallK E fns pur pls g args H ops k rest a d :=
  h _ hk

theorem CallP_pure {g : FuncId} {args : List Value} {ops : Array Oper} {rest : List Stage} {d : Option Tmp} {v : Value} (h : HPure P g args H v)
    (hk : WPK E fns pur pls ops k rest (a.put d v) H) : CallP E fns pur pls g args H ops k rest a d :=
  h _ hk
end

end Go.Am
