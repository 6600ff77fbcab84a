/- Part of the proof: an abstract machine of our own over the model; no condition. -/
import Derived.Test.YtdicnaninnmoeaaGreatAmX
set_option linter.unusedSectionVars false
set_option linter.unusedSimpArgs false
set_option linter.unusedVariables false
set_option linter.unnecessarySimpa false
/- Small laws for walks: rows of cells. -/
namespace Go.Am
open Go
variable [F : Fr]

section
variable {ty : TyT} {H : AH} {t e : TypeId} {d y : Ty}

theorem aIndexAddr_slice (ht : ty t = some d) (hd : d.desc = .slice e) (hy : ty e = some y) {b o n cap i : Nat} (hi : i < n) :
    aIndexAddr ty t (.slice (some ⟨b, o, none⟩) n cap) (.int .i64 (i : Int)) = some (.pointer (some ⟨b, o + i * y.size, none⟩)) := by
  have h0 : (0 : Int) ≤ (i : Int) ∧ (i : Int) < (n : Int) := by omega
  simp [aIndexAddr, ht, hd, hy, intOf?, hi]

theorem aIndexAddr_array {k : Nat} (ht : ty t = some d) (hd : d.desc = .array k e) (hy : ty e = some y) {b o i : Nat} (hi : i < k) :
    aIndexAddr ty t (.pointer (some ⟨b, o, none⟩)) (.int .i64 (i : Int)) = some (.pointer (some ⟨b, o + i * y.size, none⟩)) := by
  simp [aIndexAddr, ht, hd, hy, intOf?, hi]

theorem aLen_slice (ht : ty t = some d) (hd : d.desc = .slice e) (a : Option Addr) (n cap : Nat) : aLen ty H t (.slice a n cap) = some (.int .i64 n) := by
  simp only [aLen, ht, hd]

theorem load_one {b i : Nat} {cs : List Value} {v : Value} (h : H.get b = some (.cells cs e)) (hv : cs[i]? = some v) : H.load b i 1 = some [v] := by
  rw [List.getElem?_eq_some_iff] at hv
  obtain ⟨hi, hv⟩ := hv
  simp only [AH.load, h]
  rw [if_pos (by omega), List.drop_eq_getElem_cons hi, hv]
  simp

theorem take_one {α : Type} {l : List α} {i : Nat} {x : α} (h : l[i]? = some x) : (l.drop i).take 1 = [x] ∧ i + 1 ≤ l.length := by
  rw [List.getElem?_eq_some_iff] at h
  obtain ⟨hi, hv⟩ := h
  rw [List.drop_eq_getElem_cons hi, hv]
  simp
  omega

theorem take_row {α : Type} (f : α → List Value) (k : Nat) (hf : ∀ x, (f x).length = k) {i : Nat} {l : List α} {x : α} (hx : l[i]? = some x) :
    ((l.flatMap f).drop (i * k)).take k = f x ∧ i * k + k ≤ (l.flatMap f).length := by
  induction l generalizing i with
  | nil => simp at hx
  | cons a l ih =>
    cases i with
    | zero =>
      simp at hx
      subst hx
      simp only [List.flatMap_cons, Nat.zero_mul, List.drop_zero, List.length_append]
      refine ⟨?_, by rw [hf]; omega⟩
      rw [List.take_append_of_le_length (by rw [hf]; omega), List.take_of_length_le (by rw [hf]; omega)]
    | succ i =>
      obtain ⟨h1, h2⟩ := ih (by simpa using hx)
      simp only [List.flatMap_cons, List.length_append, hf]
      have e1 : (i + 1) * k = k + i * k := by rw [Nat.add_mul, Nat.one_mul, Nat.add_comm]
      refine ⟨?_, by omega⟩
      rw [e1, ← List.drop_drop, List.drop_append_of_le_length (by rw [hf]; omega), List.drop_of_length_le (l := f a) (by rw [hf]; omega)]
      exact h1

/-- One of a row of things of so many cells each. -/
theorem load_row {α : Type} (f : α → List Value) (k : Nat) (hf : ∀ x, (f x).length = k) {b i : Nat} {l : List α} {x : α} (h : H.get b = some (.cells (l.flatMap f) e)) (hx : l[i]? = some x) :
    H.load b (i * k) k = some (f x) := by
  have key : ∀ (l : List α) (i : Nat), l[i]? = some x → ((l.flatMap f).drop (i * k)).take k = f x ∧ i * k + k ≤ (l.flatMap f).length := by
    intro l
    induction l with
    | nil => intro i hi; simp at hi
    | cons a l ih =>
      intro i hi
      cases i with
      | zero =>
        simp at hi
        subst hi
        simp only [List.flatMap_cons, Nat.zero_mul, List.drop_zero, List.length_append]
        refine ⟨?_, by rw [hf]; omega⟩
        rw [List.take_append_of_le_length (by rw [hf]; omega), List.take_of_length_le (by rw [hf]; omega)]
      | succ i =>
        obtain ⟨h1, h2⟩ := ih i (by simpa using hi)
        simp only [List.flatMap_cons, List.length_append, hf]
        have e1 : (i + 1) * k = k + i * k := by rw [Nat.add_mul, Nat.one_mul, Nat.add_comm]
        refine ⟨?_, by omega⟩
        rw [e1, ← List.drop_drop, List.drop_append_of_le_length (by rw [hf]; omega), List.drop_of_length_le (l := f a) (by rw [hf]; omega)]
        exact h1
  obtain ⟨h1, h2⟩ := key l i hx
  simp only [AH.load, h]
  rw [if_pos h2, h1]


theorem foldl_set_all : ∀ (l : List Value) (k : Nat) (c : Array Value), k + l.length ≤ c.size →
    ((l.zipIdx k).foldl (fun cs (p : Value × Nat) => cs.setIfInBounds (0 + p.2) p.1) c).toList = c.toList.take k ++ l ++ c.toList.drop (k + l.length) := by
  intro l
  induction l with
  | nil => intro k c h; simp
  | cons v l ih =>
    intro k c h
    simp only [List.length_cons] at h
    simp only [List.zipIdx_cons, List.foldl_cons]
    rw [ih _ _ (by simp; omega)]
    have hk : k < c.toList.length := by simp; omega
    simp only [Nat.zero_add, Array.toList_setIfInBounds, List.length_cons]
    rw [List.take_add_one, List.getElem?_set_self hk, List.take_set_of_le (by omega), List.drop_set_of_lt (by omega)]
    have : k + 1 + l.length = k + (l.length + 1) := by omega
    rw [this]
    simp

theorem aBuildSlice_agg (ht : ty t = some d) (hd : d.desc = .slice e) (hy : ty e = some y) (h1 : y.size ≠ 0) (h2 : y.size ≤ 16777216) {cs : Array Value} (hc : cs.size = y.size)
    (ho : cs.toList.all (·.oneCell') = true) : aBuildSlice ty H t 1 #[(0, .agg cs)] = some (.slice (some ⟨H.next, 0, none⟩) 1 1, H.push (.cells cs.toList e)) := by
  have hz : (zeroRow y y.size).size = y.size := by simp [zeroRow]
  have c1 : ¬ (y.size > 16777216 ∨ y.size = 0) := by omega
  have hf : Instr.fill (fun i => some (i * y.size, y.size)) (zeroRow y y.size) [(0, .agg cs)] = some cs := by
    have c2 : ¬ ((Value.agg cs).cells.size ≠ y.size || decide (0 * y.size + (Value.agg cs).cells.size > (zeroRow y y.size).size)) = true := by
      simp [Value.cells, hc, hz]
    simp only [Instr.fill, if_neg c2]
    congr 1
    apply Array.ext'
    have := foldl_set_all cs.toList 0 (zeroRow y y.size) (by simp [hc, hz])
    simp only [Nat.zero_mul, Value.cells]
    have e1 : cs.zipIdx.foldl (fun (x : Array Value) (p : Value × Nat) => x.setIfInBounds (0 + p.2) p.1) (zeroRow y y.size) =
        (cs.toList.zipIdx 0).foldl (fun (x : Array Value) (p : Value × Nat) => x.setIfInBounds (0 + p.2) p.1) (zeroRow y y.size) := by
      rw [← Array.foldl_toList, Array.toList_zipIdx]
    rw [e1, this]
    simp [hc, hz]
  unfold aBuildSlice
  simp only [ht, hd, hy, Nat.one_mul, if_neg c1, hf, Option.bind_some, ho, if_true]

theorem aAppend_nil (ht : ty t = some d) (hd : d.desc = .slice e) (hy : ty e = some y) (h1 : y.size ≠ 0) (h2 : y.bytes ≤ 4096) (h3 : y.bytes ≠ 0) {q k c : Nat} {xs : List Value}
    (hx : H.load q 0 (k * y.size) = some xs) (hk : 0 < k) (hk2 : k ≤ 4294967296) :
    aAppend ty H t t (.slice none 0 0) (.slice (some ⟨q, 0, none⟩) k c) = some (.slice (some ⟨H.next, 0, none⟩) k unk, H.push (.cells xs e)) := by
  have hap : appended H y d.desc (.slice (some ⟨q, 0, none⟩) k c) = some (k, xs) := by
    have hi : isIntD d.desc = false := by rw [hd]; rfl
    simp only [appended, hi, isStr, Bool.false_and, Bool.false_eq_true, if_false]
    cases k with
    | zero => omega
    | succ k => simp only [srcCells, hx, Option.map_some]
  have c1 : ¬ (y.size = 0 ∨ 4096 < y.bytes ∨ y.bytes = 0) := by omega
  have c2 : ¬ 4294967296 < 0 + k := by omega
  have c3 : ¬ k = 0 := by omega
  unfold aAppend
  rw [hd] at hap
  simp only [ht, hd, hy, if_neg c1, hap, if_neg c2, if_neg c3, and_self, if_true]

theorem aAppend_own (ht : ty t = some d) (hd : d.desc = .slice e) (hy : ty e = some y) (h1 : y.size ≠ 0) (h2 : y.bytes ≤ 4096) (h3 : y.bytes ≠ 0) {q k c b len : Nat} {xs cs : List Value}
    (hx : H.load q 0 (k * y.size) = some xs) (hk : 0 < k) (hk2 : len + k ≤ 4294967296) (hb : H.get b = some (.cells cs e)) (hl : cs.length = len * y.size) :
    aAppend ty H t t (.slice (some ⟨b, 0, none⟩) len unk) (.slice (some ⟨q, 0, none⟩) k c) =
      some (.slice (some ⟨H.next, 0, none⟩) (len + k) unk, (H.set b none).push (.cells (cs ++ xs) e)) := by
  have hap : appended H y d.desc (.slice (some ⟨q, 0, none⟩) k c) = some (k, xs) := by
    have hi : isIntD d.desc = false := by rw [hd]; rfl
    simp only [appended, hi, isStr, Bool.false_and, Bool.false_eq_true, if_false]
    cases k with
    | zero => omega
    | succ k => simp only [srcCells, hx, Option.map_some]
  have c1 : ¬ (y.size = 0 ∨ 4096 < y.bytes ∨ y.bytes = 0) := by omega
  have c2 : ¬ 4294967296 < len + k := by omega
  have c3 : ¬ k = 0 := by omega
  have c4 : ¬ (unk ≠ unk ∧ unk < len + k) := fun h => h.1 rfl
  have c5 : okBlk H e (some ⟨b, 0, none⟩) = true := by simp [okBlk, hb]
  have c6 : H.load b 0 (len * y.size) = some cs := by
    simp only [AH.load, hb]
    rw [if_pos (by omega), List.drop_zero, List.take_of_length_le (by omega)]
  unfold aAppend
  rw [hd] at hap
  simp only [ht, hd, hy, if_neg c1, hap, if_neg c2, if_neg c3, if_neg c4, c5, if_true, c6]

end
end Go.Am
