/- Part of the proof: an abstract machine of our own over the model; no condition. -/
import Derived.Test.YtdicnaninnmoeaaGreatAmX
set_option linter.unusedSectionVars false
set_option linter.unusedSimpArgs false
set_option linter.unusedVariables false
set_option linter.unnecessarySimpa false
/- Floats without a sign: their order is the order of their words. -/
namespace Go.Am
open Go Ieee

abbrev fInf : Nat := 9218868437227405312
abbrev fOne : Nat := 4607182418800017408
abbrev fQuiet : Nat := 9221120237041090560

/-- What a word without a sign stands for, in units of the least place. -/
def fVal (x : Nat) : Nat := if x < 4503599627370496 then x else (4503599627370496 + x % 4503599627370496) * 2 ^ (x / 4503599627370496 - 1)

theorem read_small {x : Nat} (h : x < 4503599627370496) : double.read x = .number false x (-1074) := by
  have e1 : double.signWeight = 9223372036854775808 := by decide
  have e2 : double.binade = 4503599627370496 := by decide
  have e3 : double.leastPlace = -1074 := by decide
  have h1 : x / 9223372036854775808 = 0 := Nat.div_eq_of_lt (by omega)
  have h2 : x % 9223372036854775808 = x := Nat.mod_eq_of_lt (by omega)
  simp [Format.read, e1, e2, e3, h1, h2, h]

theorem read_normal {x : Nat} (h : 4503599627370496 ≤ x) (h' : x < fInf) :
    double.read x = .number false (4503599627370496 + x % 4503599627370496) (-1074 + (x / 4503599627370496 - 1 : Nat)) := by
  have e1 : double.signWeight = 9223372036854775808 := by decide
  have e2 : double.binade = 4503599627370496 := by decide
  have e3 : double.leastPlace = -1074 := by decide
  have e4 : double.infRung = fInf := by decide
  have h1 : x / 9223372036854775808 = 0 := Nat.div_eq_of_lt (by simp [fInf] at h'; omega)
  have h2 : x % 9223372036854775808 = x := Nat.mod_eq_of_lt (by simp [fInf] at h'; omega)
  have h3 : ¬ x < 4503599627370496 := by omega
  simp [Format.read, e1, e2, e3, e4, h1, h2, h3, h']

theorem read_inf : double.read fInf = .infinity false := by decide

theorem fVal_lt {x y : Nat} (h : x < y) : fVal x < fVal y := by
  unfold fVal
  have hb : 0 < 4503599627370496 := by decide
  split
  · rename_i hx
    split
    · exact h
    · rename_i hy
      have := Nat.one_le_two_pow (n := y / 4503599627370496 - 1)
      calc x < 4503599627370496 + y % 4503599627370496 := by omega
        _ = (4503599627370496 + y % 4503599627370496) * 1 := by omega
        _ ≤ _ := Nat.mul_le_mul_left _ this
  · rename_i hx
    have hy : ¬ y < 4503599627370496 := by omega
    rw [if_neg hy]
    rcases Nat.lt_or_ge (x / 4503599627370496) (y / 4503599627370496) with hq | hq
    · have hp : 2 ^ (x / 4503599627370496 - 1) * 2 ≤ 2 ^ (y / 4503599627370496 - 1) := by
        rw [← Nat.pow_succ]
        exact Nat.pow_le_pow_right (by decide) (by omega)
      calc (4503599627370496 + x % 4503599627370496) * 2 ^ (x / 4503599627370496 - 1)
          < (4503599627370496 * 2) * 2 ^ (x / 4503599627370496 - 1) :=
            Nat.mul_lt_mul_of_pos_right (by have := Nat.mod_lt x hb; omega) (Nat.two_pow_pos _)
        _ = 4503599627370496 * (2 ^ (x / 4503599627370496 - 1) * 2) := by rw [Nat.mul_assoc, Nat.mul_comm 2]
        _ ≤ 4503599627370496 * 2 ^ (y / 4503599627370496 - 1) := Nat.mul_le_mul_left _ hp
        _ ≤ _ := Nat.mul_le_mul_right _ (by omega)
    · have hqe : x / 4503599627370496 = y / 4503599627370496 := Nat.le_antisymm (Nat.div_le_div_right (by omega)) hq
      rw [hqe]
      refine Nat.mul_lt_mul_of_pos_right ?_ (Nat.two_pow_pos _)
      have h1 := Nat.div_add_mod x 4503599627370496
      have h2 := Nat.div_add_mod y 4503599627370496
      rw [hqe] at h1
      omega

/-- A finite word without a sign, as it is read. -/
theorem read_fin {x : Nat} (h : x < fInf) : ∃ m k : Nat, double.read x = .number false m (-1074 + (k : Int)) ∧ m * 2 ^ k = fVal x := by
  rcases Nat.lt_or_ge x 4503599627370496 with hx | hx
  · exact ⟨x, 0, by rw [read_small hx]; rfl, by simp [fVal, hx]⟩
  · exact ⟨_, _, read_normal hx h, by simp [fVal, Nat.not_lt.2 hx]⟩

theorem compare_mul {a b c : Nat} (hc : 0 < c) : compare (a * c) (b * c) = compare a b := by
  simp only [Nat.compare_eq_ite_lt, Nat.mul_lt_mul_right hc]

theorem order_nat {m n i j : Nat} : (Datum.number false m (-1074 + (i : Int))).order (.number false n (-1074 + (j : Int))) = some (compare (m * 2 ^ i) (n * 2 ^ j)) := by
  simp only [Datum.order, signed, Bool.false_eq_true, if_false]
  congr 1
  rcases Nat.le_total i j with h | h
  · have hb : min (-1074 + (i : Int)) (-1074 + (j : Int)) = -1074 + (i : Int) := by omega
    rw [hb]
    have e1 : (-1074 + (i : Int) - (-1074 + (i : Int))).toNat = 0 := by omega
    have e2 : (-1074 + (j : Int) - (-1074 + (i : Int))).toNat = j - i := by omega
    rw [e1, e2]
    have : n * 2 ^ j = (n * 2 ^ (j - i)) * 2 ^ i := by rw [Nat.mul_assoc, ← Nat.pow_add]; congr 2; omega
    rw [this, compare_mul (Nat.two_pow_pos _), Nat.shiftLeft_eq, Nat.shiftLeft_eq]
    simp only [Int.compare_eq_ite_lt, Nat.compare_eq_ite_lt, Int.ofNat_lt]
    simp
  · have hb : min (-1074 + (i : Int)) (-1074 + (j : Int)) = -1074 + (j : Int) := by omega
    rw [hb]
    have e1 : (-1074 + (j : Int) - (-1074 + (j : Int))).toNat = 0 := by omega
    have e2 : (-1074 + (i : Int) - (-1074 + (j : Int))).toNat = i - j := by omega
    rw [e1, e2]
    have : m * 2 ^ i = (m * 2 ^ (i - j)) * 2 ^ j := by rw [Nat.mul_assoc, ← Nat.pow_add]; congr 2; omega
    rw [this, compare_mul (Nat.two_pow_pos _), Nat.shiftLeft_eq, Nat.shiftLeft_eq]
    simp only [Int.compare_eq_ite_lt, Nat.compare_eq_ite_lt, Int.ofNat_lt]
    simp

theorem compare_fVal (x y : Nat) : compare (fVal x) (fVal y) = compare x y := by
  rcases Nat.lt_trichotomy x y with h | h | h
  · rw [Nat.compare_eq_lt.2 h, Nat.compare_eq_lt.2 (fVal_lt h)]
  · subst h; simp
  · rw [Nat.compare_eq_gt.2 h, Nat.compare_eq_gt.2 (fVal_lt h)]

/-- The order of words without a sign. -/
theorem order_pos {x y : Nat} (hx : x ≤ fInf) (hy : y ≤ fInf) : FloatKind.f64.format.order x y = some (compare x y) := by
  have hf : FloatKind.f64.format = double := rfl
  rw [hf, Format.order]
  rcases Nat.lt_or_ge x fInf with hx' | hx'
  · obtain ⟨m, i, h1, h2⟩ := read_fin hx'
    rcases Nat.lt_or_ge y fInf with hy' | hy'
    · obtain ⟨n, j, h3, h4⟩ := read_fin hy'
      rw [h1, h3, order_nat, h2, h4, compare_fVal]
    · have : y = fInf := by omega
      subst this
      rw [h1, read_inf]
      simp [Datum.order, Nat.compare_eq_lt.2 hx']
  · have : x = fInf := by omega
    subst this
    rcases Nat.lt_or_ge y fInf with hy' | hy'
    · obtain ⟨n, j, h3, h4⟩ := read_fin hy'
      rw [h3, read_inf]
      simp [Datum.order, Nat.compare_eq_gt.2 hy']
    · have : y = fInf := by omega
      subst this
      rw [read_inf]
      simp [Datum.order]

end Go.Am
