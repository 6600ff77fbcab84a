/- Part of the proof: an abstract machine of our own over the model; no condition. -/
import Derived.Test.YtdicnaninnmoeaaGreatAmE
set_option linter.unusedSectionVars false
set_option linter.unusedSimpArgs false
set_option linter.unusedVariables false
set_option linter.unnecessarySimpa false
/- The abstract machine, part F: append, copy. -/
namespace Go.Am
open Go
variable [F : Fr]

variable {P : Program} {ty : TyT} {σ : Sig} {H : AH} {w : World}

theorem growBy_le (n : Nat) : ∀ (r c : Nat), Builtin.growBy n r c ≤ max c (n + (n + 768) / 4)
  | 0, c => by simp [Builtin.growBy]; omega
  | r + 1, c => by
    unfold Builtin.growBy
    split
    · omega
    · have := growBy_le n r (c + (c + 768) / 4)
      omega

theorem nextslicecap_le (n o : Nat) (h : o < n) : Builtin.nextslicecap n o ≤ 2 * n + 1024 := by
  unfold Builtin.nextslicecap
  split
  · omega
  · split
    · omega
    · have := growBy_le n 4 o
      omega

def strCells (s : ByteArray) : List Value := s.data.toList.map fun b => .int .u8 b.toNat

theorem VRs_ints {k : IntKind} (σ : Sig) {α : Type} (f : α → Int) : ∀ l : List α, VRs σ (l.map fun a => .int k (f a)) (l.map fun a => .int k (f a))
  | [] => .nil
  | _ :: l => .cons (.int _ _) (VRs_ints σ f l)

/-- The elements that are appended or copied: how many, and their cells. -/
def srcCells (H : AH) (size : Nat) (x : Value) : Option (Nat × List Value) :=
  match x with
  | .string s => some (s.size, strCells s)
  | .slice _ 0 _ => some (0, [])
  | .slice (some ⟨b, o, none⟩) n _ => (H.load b o (n * size)).map fun cs => (n, cs)
  | _ => none

theorem srcCells_len {size n : Nat} {x : Value} {cs : List Value} (h : srcCells H size x = some (n, cs)) (hs : ∀ s, x = .string s → size = 1) : cs.length = n * size := by
  unfold srcCells at h
  split at h
  · rename_i s
    cases h
    rw [hs s rfl]
    simp [strCells]
  · cases h; simp
  · rw [Option.map_eq_some_iff] at h
    obtain ⟨cs', hl, h⟩ := h
    cases h
    obtain ⟨all, e, _, hle, rfl⟩ := AH.load_some hl
    simp
    omega
  · cases h

theorem srcCells_sound (hr : HR P σ H w) {size n : Nat} {x x' : Value} {cs : List Value} (hx : VR σ x x') (h : srcCells H size x = some (n, cs)) :
    (Builtin.lenOf x').run P w = .ok n w ∧ ∃ rs : Array Value, VRs σ cs rs.toList ∧ ∀ w' : World, w'.heap = w.heap → (Builtin.firstCells size n x').run P w' = .ok rs w' := by
  unfold srcCells at h
  split at h
  · rename_i s
    cases h
    cases hx
    refine ⟨by simp [Builtin.lenOf], (s.data.map fun b => .int .u8 b.toNat), ?_, fun w' _ => ?_⟩
    · simpa [strCells] using VRs_ints σ (fun b : UInt8 => (b.toNat : Int)) s.data.toList
    · have : s.extract 0 s.size = s := by
        apply ByteArray.ext
        simp [ByteArray.extract_zero_size]
      simp [Builtin.firstCells, this]
  · cases h
    cases hx with
    | snil => exact ⟨by simp [Builtin.lenOf], #[], .nil, fun w' _ => by simp [Builtin.firstCells]⟩
    | slice => exact ⟨by simp [Builtin.lenOf], #[], .nil, fun w' _ => by simp [Builtin.firstCells, loadCells, loadCellsFrom]⟩
    | slice0 => exact ⟨by simp [Builtin.lenOf], #[], .nil, fun w' _ => by simp [Builtin.firstCells, loadCells, loadCellsFrom]⟩
  · rename_i b o m cap hm
    rw [Option.map_eq_some_iff] at h
    obtain ⟨cs', hl, h⟩ := h
    cases h
    cases hx with
    | slice _ _ _ _ cap' im hσ hc hl' hs =>
      obtain ⟨rs, hv, hlen, _, hrun⟩ := hr.load hl hσ
      exact ⟨by simp [Builtin.lenOf], rs.toArray, by simpa using hv, fun w' hw => by simp [Builtin.firstCells, hrun w' hw]⟩
    | slice0 _ _ o' _ im hσ hc => exact (hm rfl).elim
  · cases h

theorem srcCells_one (hr : HR P σ H w) {size n : Nat} {x : Value} {cs : List Value} (h : srcCells H size x = some (n, cs)) : cs.all (·.oneCell') = true := by
  unfold srcCells at h
  split at h
  · cases h
    simp only [strCells, List.all_map, List.all_eq_true]
    intro x _
    rfl
  · cases h; rfl
  · rw [Option.map_eq_some_iff] at h
    obtain ⟨cs', hl, h⟩ := h
    cases h
    exact hr.load_one hl
  · cases h

/-- What is appended: of a make, of a string, of a slice. -/
def isIntD : TypeDesc → Bool
  | .int _ => true
  | _ => false

def isStr : Value → Bool
  | .string _ => true
  | _ => false

def appended (H : AH) (y : Ty) (d1 : TypeDesc) (x : Value) : Option (Nat × List Value) :=
  if isIntD d1 then
    match intOf? x with
    | some l => if 0 ≤ l ∧ l ≤ 4294967296 then some (l.toNat, (zeroRow y (l.toNat * y.size)).toList) else none
    | none => none
  else if isStr x && y.size != 1 then none else srcCells H y.size x

def aAppend (ty : TyT) (H : AH) (t t1 : TypeId) (s x : Value) : Option (Value × AH) :=
  match ty t, ty t1 with
  | some d, some d1 =>
    match d.desc, s with
    | .slice e, .slice a len cap =>
      match ty e with
      | none => none
      | some y =>
        if y.size = 0 ∨ 4096 < y.bytes ∨ y.bytes = 0 then none else
        match appended H y d1.desc x with
        | none => none
        | some (n, xs) =>
          if 4294967296 < len + n then none else
          if n = 0 then some (s, H) else
          match a with
          | none => if len = 0 ∧ cap = 0 then some (.slice (some ⟨H.next, 0, none⟩) n unk, H.push (.cells xs e)) else none
          | some ⟨b, o, none⟩ =>
            if cap ≠ unk ∧ cap < len + n then
              match (if len = 0 then some [] else H.load b o (len * y.size)) with
              | none => none
              | some old => some (.slice (some ⟨H.next, 0, none⟩) (len + n) unk, H.push (.cells (old ++ xs) e))
            else if okBlk H e (some ⟨b, o, none⟩) = true then
              match H.load b o (len * y.size) with
              | none => none
              | some old => some (.slice (some ⟨H.next, 0, none⟩) (len + n) unk, (H.set b none).push (.cells (old ++ xs) e))
            else none
          | _ => none
    | _, _ => none
  | _, _ => none

theorem zeroCells_eq (y : Ty) (n : Nat) (hs : y.zero.cells.size = y.size) : Builtin.zeroCells y.zero.cells n = zeroRow y (n * y.size) := by
  simp [Builtin.zeroCells, zeroRow, hs]

end Go.Am
