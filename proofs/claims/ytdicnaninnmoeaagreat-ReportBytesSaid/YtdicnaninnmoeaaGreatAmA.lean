/- Part of the proof: an abstract machine of our own over the model; no condition. -/
import Derived.Defers
import Derived.Recover
set_option linter.unusedSectionVars false
set_option linter.unusedSimpArgs false
set_option linter.unusedVariables false
set_option linter.unnecessarySimpa false
/- The abstract machine, part A: abstract heaps, and how they lie in the model's memory. -/
namespace Go.Am
open Go

/-- Where an abstract block lies. -/
structure Img where
  blk : Nat
  base : Nat
  size : Nat
  esz : Nat

abbrev Sig := Nat → Option Img

/-- The capacity that is not known. -/
def unk : Nat := 1180591620717411303424

def Le (σ σ' : Sig) : Prop := ∀ b i, σ b = some i → σ' b = some i

theorem Le.refl (σ : Sig) : Le σ σ := fun _ _ h => h
theorem Le.trans {σ σ' σ'' : Sig} (h : Le σ σ') (h' : Le σ' σ'') : Le σ σ'' := fun b i e => h' b i (h b i e)

mutual
inductive VR (σ : Sig) : Value → Value → Prop
  | any (k : IntKind) (n : Int) : VR σ (.chan none) (.int k n)
  | bool (b : Bool) : VR σ (.bool b) (.bool b)
  | int (k : IntKind) (n : Int) : VR σ (.int k n) (.int k n)
  | float (k : FloatKind) (n : Nat) : VR σ (.float k n) (.float k n)
  | string (s : ByteArray) : VR σ (.string s) (.string s)
  | pnil : VR σ (.pointer none) (.pointer none)
  | ptr (b o : Nat) (i : Img) (h : σ b = some i) : VR σ (.pointer (some ⟨b, o, none⟩)) (.pointer (some ⟨i.blk, i.base + o, none⟩))
  | snil : VR σ (.slice none 0 0) (.slice none 0 0)
  | slice (b o len cap cap' : Nat) (i : Img) (h : σ b = some i) (hc : cap = cap' ∨ cap = unk) (hl : len ≤ cap')
      (hs : i.base + o + cap' * i.esz ≤ i.size) : VR σ (.slice (some ⟨b, o, none⟩) len cap) (.slice (some ⟨i.blk, i.base + o, none⟩) len cap')
  | slice0 (b o o' cap : Nat) (i : Img) (h : σ b = some i) (hc : cap = 0 ∨ cap = unk) :
      VR σ (.slice (some ⟨b, o, none⟩) 0 cap) (.slice (some ⟨i.blk, o', none⟩) 0 0)
  | mnil : VR σ (.map none) (.map none)
  | map (b : Nat) (i : Img) (h : σ b = some i) : VR σ (.map (some b)) (.map (some i.blk))
  | func (fn : Fn) (f f' c c' : Array Value) (hf : VRs σ f.toList f'.toList) (hc : VRs σ c.toList c'.toList) : VR σ (.func fn f c) (.func fn f' c')
  | nilFunc : VR σ .nilFunc .nilFunc
  | nilIface : VR σ .nilIface .nilIface
  | iface (t : TypeId) (v v' : Value) (h : VR σ v v') : VR σ (.iface t v) (.iface t v')
  | agg (c c' : Array Value) (h : VRs σ c.toList c'.toList) : VR σ (.agg c) (.agg c')
  | tuple (c c' : Array Value) (h : VRs σ c.toList c'.toList) : VR σ (.tuple c) (.tuple c')
inductive VRs (σ : Sig) : List Value → List Value → Prop
  | nil : VRs σ [] []
  | cons {v v' : Value} {vs vs' : List Value} (h : VR σ v v') (hs : VRs σ vs vs') : VRs σ (v :: vs) (v' :: vs')
end

mutual
theorem VR.mono {σ σ' : Sig} (hle : Le σ σ') : ∀ {v v' : Value}, VR σ v v' → VR σ' v v'
  | _, _, .any k n => .any k n
  | _, _, .bool b => .bool b
  | _, _, .int k n => .int k n
  | _, _, .float k n => .float k n
  | _, _, .string s => .string s
  | _, _, .pnil => .pnil
  | _, _, .ptr b o i h => .ptr b o i (hle _ _ h)
  | _, _, .snil => .snil
  | _, _, .slice b o len cap cap' i h hc hl hs => .slice b o len cap cap' i (hle _ _ h) hc hl hs
  | _, _, .slice0 b o o' cap i h hc => .slice0 b o o' cap i (hle _ _ h) hc
  | _, _, .mnil => .mnil
  | _, _, .map b i h => .map b i (hle _ _ h)
  | _, _, .func fn f f' c c' hf hc => .func fn f f' c c' (hf.mono hle) (hc.mono hle)
  | _, _, .nilFunc => .nilFunc
  | _, _, .nilIface => .nilIface
  | _, _, .iface t v v' h => .iface t v v' (h.mono hle)
  | _, _, .agg c c' h => .agg c c' (h.mono hle)
  | _, _, .tuple c c' h => .tuple c c' (h.mono hle)
theorem VRs.mono {σ σ' : Sig} (hle : Le σ σ') : ∀ {v v' : List Value}, VRs σ v v' → VRs σ' v v'
  | _, _, .nil => .nil
  | _, _, .cons h hs => .cons (h.mono hle) (hs.mono hle)
end

theorem VRs.length {σ : Sig} : ∀ {l l' : List Value}, VRs σ l l' → l.length = l'.length
  | _, _, .nil => rfl
  | _, _, .cons _ hs => by simp [hs.length]

theorem VRs.append {σ : Sig} : ∀ {l l' m m' : List Value}, VRs σ l l' → VRs σ m m' → VRs σ (l ++ m) (l' ++ m')
  | _, _, _, _, .nil, h => h
  | _, _, _, _, .cons h hs, h' => .cons h (hs.append h')

theorem VRs.get? {σ : Sig} : ∀ {l l' : List Value} (k : Nat), VRs σ l l' → ∀ {v : Value}, l[k]? = some v → ∃ v' : Value, l'[k]? = some v' ∧ VR σ v v'
  | _, _, k, .nil, _, h => by simp at h
  | _, _, 0, .cons (v := x) (v' := x') h hs, _, e => by simp at e; subst e; exact ⟨x', by simp, h⟩
  | _, _, k + 1, .cons h hs, _, e => by
    simp at e
    obtain ⟨v', e', hr⟩ := hs.get? k e
    exact ⟨v', by simpa using e', hr⟩

theorem VRs.of_get {σ : Sig} : ∀ {l l' : List Value}, l.length = l'.length → (∀ (k : Nat) (v : Value), l[k]? = some v → ∃ v' : Value, l'[k]? = some v' ∧ VR σ v v') → VRs σ l l'
  | [], [], _, _ => .nil
  | [], _ :: _, h, _ => by simp at h
  | _ :: _, [], h, _ => by simp at h
  | x :: l, x' :: l', h, f => by
    refine .cons ?_ (VRs.of_get (by simpa using h) fun k v e => ?_)
    · obtain ⟨v', e', hr⟩ := f 0 x (by simp); simp at e'; exact e' ▸ hr
    · obtain ⟨v', e', hr⟩ := f (k + 1) v (by simpa using e); exact ⟨v', by simpa using e', hr⟩

theorem VRs.set {σ : Sig} : ∀ {l l' : List Value} (k : Nat) {v v' : Value}, VRs σ l l' → VR σ v v' → VRs σ (l.set k v) (l'.set k v')
  | _, _, _, _, _, .nil, _ => .nil
  | _, _, 0, _, _, .cons _ hs, h' => .cons h' hs
  | _, _, k + 1, _, _, .cons h hs, h' => .cons h (hs.set k h')

theorem VRs.take {σ : Sig} : ∀ {l l' : List Value} (k : Nat), VRs σ l l' → VRs σ (l.take k) (l'.take k)
  | _, _, _, .nil => by simp; exact .nil
  | _, _, 0, .cons _ _ => .nil
  | _, _, k + 1, .cons h hs => .cons h (hs.take k)

theorem VRs.drop {σ : Sig} : ∀ {l l' : List Value} (k : Nat), VRs σ l l' → VRs σ (l.drop k) (l'.drop k)
  | _, _, _, .nil => by simp; exact .nil
  | _, _, 0, .cons h hs => .cons h hs
  | _, _, k + 1, .cons _ hs => hs.drop k

theorem VRs.replicate {σ : Sig} {v v' : Value} (h : VR σ v v') : ∀ n, VRs σ (List.replicate n v) (List.replicate n v')
  | 0 => .nil
  | n + 1 => .cons h (VRs.replicate h n)

/-- The cells of related values are related. -/
theorem VR.cells {σ : Sig} {v v' : Value} (h : VR σ v v') : VRs σ v.cells.toList v'.cells.toList := by
  cases h with
  | any k n => exact .cons (.any k n) .nil
  | agg c c' h => exact h
  | bool b => exact .cons (.bool b) .nil
  | int k n => exact .cons (.int k n) .nil
  | float k n => exact .cons (.float k n) .nil
  | string s => exact .cons (.string s) .nil
  | pnil => exact .cons .pnil .nil
  | ptr b o i h => exact .cons (.ptr b o i h) .nil
  | snil => exact .cons .snil .nil
  | slice b o len cap cap' i h hc hl hs => exact .cons (.slice b o len cap cap' i h hc hl hs) .nil
  | slice0 b o o' cap i h hc => exact .cons (.slice0 b o o' cap i h hc) .nil
  | mnil => exact .cons .mnil .nil
  | map b i h => exact .cons (.map b i h) .nil
  | func fn f f' c c' hf hc => exact .cons (.func fn f f' c c' hf hc) .nil
  | nilFunc => exact .cons .nilFunc .nil
  | nilIface => exact .cons .nilIface .nil
  | iface t v v' h => exact .cons (.iface t v v' h) .nil
  | tuple c c' h => exact .cons (.tuple c c' h) .nil

/-- A value without addresses, in every memory as it is. -/
def selfRel : Nat → Value → Bool
  | _, .bool _ | _, .int _ _ | _, .float _ _ | _, .string _ | _, .pointer none | _, .slice none 0 0 | _, .map none | _, .nilFunc | _, .nilIface => true
  | n + 1, .agg c => c.toList.all (selfRel n)
  | n + 1, .tuple c => c.toList.all (selfRel n)
  | n + 1, .iface _ v => selfRel n v
  | _, _ => false

theorem selfRel_VR {σ : Sig} : ∀ (n : Nat) (v : Value), selfRel n v = true → VR σ v v := by
  have lst : ∀ (n : Nat), (∀ v, selfRel n v = true → VR σ v v) → ∀ l : List Value, l.all (selfRel n) = true → VRs σ l l := by
    intro n ih l
    induction l with
    | nil => intro _; exact .nil
    | cons x l ihl => intro h; simp at h; exact .cons (ih _ h.1) (ihl (by simpa using h.2))
  intro n
  induction n with
  | zero =>
    intro v h
    unfold selfRel at h
    split at h <;> first | exact .bool _ | exact .int _ _ | exact .float _ _ | exact .string _ | exact .pnil | exact .snil | exact .mnil | exact .nilFunc | exact .nilIface | simp_all
  | succ n ih =>
    intro v h
    unfold selfRel at h
    split at h <;> first | exact .bool _ | exact .int _ _ | exact .float _ _ | exact .string _ | exact .pnil | exact .snil | exact .mnil | exact .nilFunc | exact .nilIface | skip
    · rename_i n' c heq
      obtain rfl : n' = n := by omega
      exact .agg _ _ (lst n' ih _ h)
    · rename_i n' c heq
      obtain rfl : n' = n := by omega
      exact .tuple _ _ (lst n' ih _ h)
    · rename_i n' t v heq
      obtain rfl : n' = n := by omega
      exact .iface _ _ _ (ih _ h)
    · simp at h

end Go.Am
