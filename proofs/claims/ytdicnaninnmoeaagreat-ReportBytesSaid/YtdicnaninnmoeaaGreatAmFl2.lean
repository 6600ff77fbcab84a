/- Part of the proof: an abstract machine of our own over the model; no condition. -/
import Derived.Test.YtdicnaninnmoeaaGreatAmFl
set_option linter.unusedSectionVars false
set_option linter.unusedSimpArgs false
set_option linter.unusedVariables false
set_option linter.unnecessarySimpa false
/- Floats: the sign turned, whole numbers, quotients. -/
namespace Go.Am
open Go Ieee

theorem nearest_le (mag : Nat) (place : Int) : double.nearest false mag place ≤ fInf := by
  unfold Format.nearest
  have e4 : double.infRung = fInf := by decide
  split
  · simp [Format.word]
  · simp only [Format.word, Bool.false_eq_true, if_false, e4]
    exact Nat.min_le_right _ _

theorem nearest_zero (place : Int) : double.nearest false 0 place = 0 := by simp [Format.nearest, Format.word]

theorem cut_even_le (neg : Bool) (n drop : Nat) : Toward.even.cut neg n drop ≤ n / (1 <<< min drop (n.log2 + 2)) + 1 := by
  unfold Toward.cut
  simp only
  have : ∀ b : Bool, b.toNat ≤ 1 := by decide
  exact Nat.add_le_add_left (this _) _

/-- A whole number above nought, below 2^64: the word nearest to it stands for a finite number above nought. -/
theorem nearest_int {n : Nat} (h0 : 0 < n) (h1 : n < 18446744073709551616) : ∃ m i, double.read (FloatKind.f64.nearest n) = .number false m i ∧ 0 < m := by
  have hw : FloatKind.f64.nearest n = double.nearest false n 0 := by
    have : ¬ ((n : Int) < 0) := by omega
    simp [FloatKind.nearest, FloatKind.encode, FloatKind.format, Format.write, this]
  rw [hw]
  have e1 : double.fractionBits = 52 := rfl
  have e2 : double.binade = 4503599627370496 := by decide
  have e3 : double.leastPlace = -1074 := by decide
  have e4 : double.infRung = fInf := by decide
  have hlog : n.log2 < 64 := (Nat.log2_lt (by omega)).2 h1
  have hl : max ((0 : Int) + n.log2 - 52) (-1074) = (n.log2 : Int) - 52 := by omega
  have hword : ∃ w : Nat, double.nearest false n 0 = w ∧ 4503599627370496 ≤ w ∧ w < fInf := by
    refine ⟨_, rfl, ?_⟩
    unfold Format.nearest
    rw [if_neg (by omega)]
    simp only [e1, e2, e3, e4, Format.word, Bool.false_eq_true, if_false]
    have hl' : max ((0 : Int) + n.log2 - ((52 : Nat) : Int)) (-1074) = (n.log2 : Int) - 52 := by omega
    rw [hl']
    generalize hk : Toward.even.cut false (n <<< (0 - ((n.log2 : Int) - 52)).toNat) ((n.log2 : Int) - 52 - 0).toNat = kept
    have hkle : kept ≤ 9007199254740992 := by
      rw [← hk]
      refine Nat.le_trans (cut_even_le _ _ _) ?_
      have hlow : n < 2 ^ (n.log2 + 1) := Nat.lt_log2_self
      rcases Nat.lt_or_ge n.log2 52 with hc | hc
      · have s1 : (0 - ((n.log2 : Int) - 52)).toNat = 52 - n.log2 := by omega
        have s2 : ((n.log2 : Int) - 52 - 0).toNat = 0 := by omega
        rw [s1, s2, Nat.shiftLeft_eq]
        have : n * 2 ^ (52 - n.log2) < 2 ^ (n.log2 + 1) * 2 ^ (52 - n.log2) := Nat.mul_lt_mul_of_pos_right hlow (Nat.two_pow_pos _)
        rw [← Nat.pow_add] at this
        have e : n.log2 + 1 + (52 - n.log2) = 53 := by omega
        rw [e] at this
        simp
        omega
      · have s1 : (0 - ((n.log2 : Int) - 52)).toNat = 0 := by omega
        have s2 : ((n.log2 : Int) - 52 - 0).toNat = n.log2 - 52 := by omega
        rw [s1, s2]
        simp only [Nat.shiftLeft_zero]
        have hm : min (n.log2 - 52) (n.log2 + 2) = n.log2 - 52 := by omega
        rw [hm, Nat.shiftLeft_eq, Nat.one_mul]
        have : n / 2 ^ (n.log2 - 52) < 2 ^ 53 := by
          rw [Nat.div_lt_iff_lt_mul (Nat.two_pow_pos _), ← Nat.pow_add]
          have e : 53 + (n.log2 - 52) = n.log2 + 1 := by omega
          rw [e]; exact hlow
        omega
    have hup : ((n.log2 : Int) - 52 - -1074).toNat = n.log2 + 1022 := by omega
    rw [hup]
    have hfi : fInf = 9218868437227405312 := rfl
    rw [hfi]
    constructor
    · refine Nat.le_min.2 ⟨?_, by decide⟩
      omega
    · refine Nat.lt_of_le_of_lt (Nat.min_le_left _ _) ?_
      omega
  obtain ⟨w, hw1, hw2, hw3⟩ := hword
  rw [hw1, read_normal hw2 hw3]
  exact ⟨_, _, rfl, by omega⟩

theorem nearest_int0 : double.read (FloatKind.f64.nearest 0) = .number false 0 (-1074) := by decide

/-- The quotient of two counts, not both nought. -/
theorem div_counts {p a : Nat} (hp : p < 18446744073709551616) (ha : a < 18446744073709551616) (h : ¬ (p = 0 ∧ a = 0)) :
    ∃ r, FloatKind.f64.format.div (FloatKind.f64.nearest p) (FloatKind.f64.nearest a) = some r ∧ r ≤ fInf ∧ (a = 0 → r = fInf) := by
  have hf : FloatKind.f64.format = double := rfl
  rw [hf, Format.div]
  have rd : ∀ n : Nat, n < 18446744073709551616 → ∃ m i, double.read (FloatKind.f64.nearest n) = .number false m i ∧ (m = 0 ↔ n = 0) := by
    intro n hn
    rcases Nat.eq_zero_or_pos n with h | h
    · subst h
      exact ⟨_, _, nearest_int0, by simp⟩
    · obtain ⟨m, i, h1, h2⟩ := nearest_int h hn
      exact ⟨m, i, h1, by omega⟩
  obtain ⟨m, i, h1, h2⟩ := rd p hp
  obtain ⟨n, j, h3, h4⟩ := rd a ha
  rw [h1, h3]
  unfold Datum.quotient
  by_cases hn : n = 0
  · have hm : m ≠ 0 := fun e => h ⟨h2.1 e, h4.1 hn⟩
    simp only [hn, if_true, if_neg hm]
    refine ⟨fInf, ?_, Nat.le_refl _, fun _ => rfl⟩
    decide
  · simp only [if_neg hn, Option.map_some]
    refine ⟨_, rfl, ?_, fun e => absurd (h4.2 e) hn⟩
    simp only [Format.write, Bool.xor_self]
    exact nearest_le _ _

/-- The quotient of two counts, as the program has it. -/
def fRatio (p a : Nat) : Nat := if p = 0 ∧ a = 0 then 0 else (FloatKind.f64.format.div (FloatKind.f64.nearest p) (FloatKind.f64.nearest a)).getD 0

theorem fRatio_le {p a : Nat} (hp : p < 18446744073709551616) (ha : a < 18446744073709551616) : fRatio p a ≤ fInf := by
  unfold fRatio
  split
  · decide
  · rename_i h
    obtain ⟨r, h1, h2, _⟩ := div_counts hp ha h
    rw [h1]
    exact h2

theorem xor_sign {b : Nat} (h : b < 9223372036854775808) : b ^^^ 9223372036854775808 = 9223372036854775808 + b := by
  have e : (9223372036854775808 : Nat) = 2 ^ 63 := by decide
  rw [e] at h ⊢
  apply Nat.eq_of_testBit_eq
  intro i
  rw [Nat.testBit_xor, Nat.testBit_two_pow]
  rcases Nat.lt_trichotomy i 63 with hi | hi | hi
  · rw [Nat.testBit_two_pow_add_gt hi]
    have : ¬ 63 = i := by omega
    simp [this]
  · subst hi
    rw [Nat.testBit_two_pow_add_eq]
    simp
  · have h1 : b.testBit i = false := Nat.testBit_lt_two_pow (Nat.lt_of_lt_of_le h (Nat.pow_le_pow_right (by decide) (by omega)))
    have h2 : (2 ^ 63 + b).testBit i = false := by
      apply Nat.testBit_lt_two_pow
      have : 2 ^ 64 ≤ 2 ^ i := Nat.pow_le_pow_right (by decide) (by omega)
      omega
    have : ¬ 63 = i := by omega
    simp [h1, h2, this]

theorem neg_gt {b : Nat} (h : b ≤ fInf) : (FloatKind.f64.format.order (Op.negFloat .f64 b) 9218868437227405311 == some .gt) = false := by
  have hf : FloatKind.f64.format = double := rfl
  have hn : Op.negFloat .f64 b = 9223372036854775808 + b := by
    have : Op.negFloat .f64 b = b ^^^ 9223372036854775808 := rfl
    rw [this, xor_sign (by simp [fInf] at h; omega)]
  have e1 : double.signWeight = 9223372036854775808 := by decide
  have hneg : (double.read (9223372036854775808 + b)) = (double.read b).opposite := by
    have h1 : (9223372036854775808 + b) / 9223372036854775808 % 2 = 1 := by simp [fInf] at h; omega
    have h2 : (9223372036854775808 + b) % 9223372036854775808 = b := by simp [fInf] at h; omega
    have h3 : b / 9223372036854775808 % 2 = 0 := by simp [fInf] at h; omega
    have h4 : b % 9223372036854775808 = b := by simp [fInf] at h; omega
    simp only [Format.read, e1, h1, h2, h3, h4]
    split
    · rfl
    · split
      · rfl
      · split <;> rfl
  rw [hf, Format.order, hn, hneg]
  have hm : double.read 9218868437227405311 = .number false 9007199254740991 971 := by decide
  rw [hm]
  rcases Nat.lt_or_ge b fInf with hb | hb
  · obtain ⟨m, i, h1, _⟩ := read_fin hb
    rw [h1]
    simp only [Datum.opposite, Bool.not_false, Datum.order, signed, if_true, Bool.false_eq_true, if_false]
    have key : ∀ y z : Nat, 0 < z → compare (-(y : Int)) (z : Int) = .lt := fun y z hz => by rw [Int.compare_eq_lt]; omega
    rw [key _ _ (by rw [Nat.shiftLeft_eq]; exact Nat.mul_pos (by decide) (Nat.two_pow_pos _))]
    rfl
  · have : b = fInf := by omega
    subst this
    rw [read_inf]
    rfl

end Go.Am
