/- What the document's functions on numbers, readers and notes compute. -/
import Derived.Test.YtdicnaninnmoeaaGreatAmC1
import Derived.Test.YtdicnaninnmoeaaGreatAmFl2
import Derived.Test.YtdicnaninnmoeaaGreatAmX2
set_option linter.unusedSectionVars false
set_option linter.unusedSimpArgs false
set_option linter.unusedVariables false
set_option linter.unnecessarySimpa false
/- Functions that answer out of their arguments: numbers with a point. -/
set_option linter.unusedSimpArgs false
set_option linter.unusedSectionVars false
set_option maxRecDepth 20000
namespace Go.Am.Q
open Go Go.Am Go.Proofs
variable [F : Fr]

def nanB (b : Nat) : Bool := FloatKind.f64.format.order b b != some .eq
def textB (b : Nat) : Nat := if nanB b then fQuiet else b

theorem nanB_pos {b : Nat} (h : b ≤ fInf) : nanB b = false := by
  unfold nanB
  rw [order_pos h h]
  simp

theorem textB_pos {b : Nat} (h : b ≤ fInf) : textB b = b := by simp [textB, nanB_pos h]

theorem textB_lt {b : Nat} (h : b < 18446744073709551616) : textB b < 18446744073709551616 := by
  unfold textB
  split
  · decide
  · exact h

theorem wrap_i64 {l : Int} (h0 : -9223372036854775808 ≤ l) (h1 : l < 9223372036854775808) : IntKind.i64.wrap l = l := by
  have hb : IntKind.i64.bits = 64 := rfl
  have hs : IntKind.i64.signed = true := rfl
  simp only [IntKind.wrap, hb, hs, Bool.true_and, decide_eq_true_eq]
  have e1 : (2 : Int) ^ 64 = 18446744073709551616 := by decide
  have e2 : (2 : Int) ^ (64 - 1) = 9223372036854775808 := by decide
  rw [e1, e2]
  split <;> omega

theorem ext70 : E.ext 70 = some .floatBits := by kernel_rfl
theorem ext68 : E.ext 68 = some .floatFrom := by kernel_rfl

theorem p62 (b : Nat) : PureC P 62 [.float .f64 b] (.int .u64 (textB b)) := by
  refine PureC_of rfl fun H => ?_
  refine ACalls_K E (fnOf_ok P) mixed pur0_ok fn62 ok62 sx62 (by simp [nt62]) ?_
  simp only [nt62]
  by_cases h : nanB b = true
  · have h' := h; unfold nanB at h'
    simp (maxDischargeDepth := 40) only [Nat.reduceEqDiff, Nat.reduceLT, reduceCtorEq, WK_ret, WK_seq, WK_cond, WK_region, WLK_nil, WLK_cons, app_fin, app_seq_normal, app_seq_ret, Keep.refl, Option.some.injEq, exists_eq_left', want, dstOk, opR, ev, entry, argT, put_n, put_tmps, put_defers, selfRel, aNilNil, nilC_tmp, ↓bind_match, ↓reduceIte, Bool.false_eq_true, decide_true, Bool.or_self, Bool.false_eq_true, true_and, and_true, ABody, aResults, aResult, tupleOf, code62, rs62, aBin_fne, h', textB, h]
    rfl
  · have h' := h; unfold nanB at h'
    simp (maxDischargeDepth := 40) only [Nat.reduceEqDiff, Nat.reduceLT, reduceCtorEq, WK_skip, WK_ret, WK_seq, WK_cond, WK_region, WLK_nil, WLK_cons, app_fin, app_seq_normal, Keep.refl, Option.some.injEq, exists_eq_left', want, dstOk, opR, ev, evs, entry, argT, put_n, put_tmps, put_defers, selfRel, aNilNil, nilC_tmp, opCallR, ↓bind_match, ↓reduceIte, Bool.false_eq_true, decide_true, Bool.or_self, Bool.false_eq_true, and_true, ABody, aResults, aResult, tupleOf, code62, rs62, aBin_fne, ext70, h', textB, h]

theorem p69 (b : Nat) : PureC P 69 [.float .f64 b] (.bool (nanB b)) := by
  refine PureC_of rfl fun H => ?_
  refine ACalls_K E (fnOf_ok P) mixed pur0_ok fn69 ok69 sx69 (by simp [nt69]) ?_
  simp only [nt69]
  simp (maxDischargeDepth := 40) only [Nat.reduceEqDiff, Nat.reduceLT, reduceCtorEq, WK_ret, WK_seq, WK_region, WLK_nil, WLK_cons, app_fin, app_seq_normal, Keep.refl, Option.some.injEq, exists_eq_left', want, dstOk, opR, ev, entry, argT, put_n, put_tmps, put_defers, selfRel, aNilNil, nilC_tmp, ↓bind_match, ↓reduceIte, Bool.false_eq_true, decide_true, Bool.or_self, Bool.false_eq_true, and_true, ABody, aResults, aResult, tupleOf, code69, rs69, aBin_fne, nanB]

theorem p213 (n : Int) : PureC P 213 [.int .u64 n] (.bool false) := by
  refine PureC_of rfl fun H => ?_
  refine ACalls_K E (fnOf_ok P) mixed pur0_ok fn213 ok213 sx213 (by simp [nt213]) ?_
  simp only [nt213]
  simp (maxDischargeDepth := 40) only [Nat.reduceEqDiff, Nat.reduceLT, reduceCtorEq, WK_ret, WK_seq, WK_region, WLK_nil, WLK_cons, app_fin, app_seq_normal, ne_eq, not_true_eq_false, Keep.refl, Option.some.injEq, exists_eq_left', want, dstOk, opR, ev, entry, argT, put_n, put_tmps, put_defers, selfRel, aNilNil, nilC_tmp, ↓bind_match, ↓reduceIte, Bool.false_eq_true, decide_true, Bool.or_self, Bool.false_eq_true, and_true, ABody, aResults, aResult, tupleOf, code213, rs213, aBin_int, intBin, bne_self_eq_false]

theorem p96 : PureC P 96 [.int .i64 1] (.float .f64 fInf) := by
  refine PureC_of rfl fun H => ?_
  refine ACalls_K E (fnOf_ok P) mixed pur0_ok fn96 ok96 sx96 (by simp [nt96]) ?_
  simp only [nt96]
  have h : decide ((1 : Int) ≥ 0) = true := by decide
  simp (maxDischargeDepth := 40) only [Nat.reduceLT, reduceCtorEq, WK_ret, WK_seq, WK_cond, WK_region, WLK_nil, WLK_cons, app_fin, app_seq_normal, ne_eq, not_true_eq_false, Keep.refl, Option.some.injEq, exists_eq_left', want, dstOk, opR, ev, evs, entry, argT, put_n, put_tmps, put_defers, selfRel, aNilNil, nilC_tmp, nilC_int, opCallR, ↓bind_match, ↓reduceIte, Bool.false_eq_true, decide_true, Bool.or_self, Bool.false_eq_true, true_and, and_true, ABody, aResults, aResult, tupleOf, code96, rs96, aBin_int, intBin, ext68, h]
  rfl

theorem p175 {b : Nat} (hb : b ≤ fInf) : PureC P 175 [.float .f64 b] (.bool false) := by
  refine PureC_of rfl fun H => ?_
  refine ACalls_K E (fnOf_ok P) mixed pur0_ok fn175 ok175 sx175 (by simp [nt175]) ?_
  simp only [nt175]
  have h1 : IntKind.i64.wrap (b : Int) = b := wrap_i64 (by omega) (by simp only [fInf] at hb; omega)
  have h2 : decide ((b : Int) < 0) = false := by simp
  simp (maxDischargeDepth := 40) only [Nat.reduceLT, reduceCtorEq, WK_ret, WK_seq, WK_region, WLK_nil, WLK_cons, app_fin, app_seq_normal, ne_eq, not_true_eq_false, Keep.refl, Option.some.injEq, exists_eq_left', aConvert, want, dstOk, opR, ev, evs, entry, argT, put_n, put_tmps, put_defers, selfRel, aNilNil, nilC_tmp, nilC_int, opCallR, ↓bind_match, ↓reduceIte, Bool.false_eq_true, decide_true, Bool.or_self, Bool.false_eq_true, and_true, ABody, aResults, aResult, tupleOf, code175, rs175, aBin_int, intBin, ext70, ty30, ty2, h1, h2]

theorem p174 {b : Nat} (hb : b ≤ fInf) : PureC P 174 [.float .f64 b, .int .i64 1] (.bool (b == fInf)) := by
  refine PureC_of rfl fun H => ?_
  refine ACalls_K E (fnOf_ok P) mixed pur0_ok fn174 ok174 sx174 (by simp [nt174]) ?_
  simp only [nt174]
  have h1 : ((1 : Int) == 0) = false := by decide
  have h2 : decide ((1 : Int) < 0) = false := by decide
  have h3 : (FloatKind.f64.format.order b 9218868437227405311 == some .gt) = (b == fInf) := by
    rw [order_pos hb (by decide), Bool.eq_iff_iff]
    simp only [beq_iff_eq, Option.some.injEq, Nat.compare_eq_gt]
    simp only [fInf] at hb ⊢
    omega
  simp (maxDischargeDepth := 40) only [Nat.reduceEqDiff, Nat.reduceLT, reduceCtorEq, WK_skip, WK_ret, WK_seq, WK_cond, WK_region, WLK_nil, WLK_cons, app_fin, app_seq_normal, ne_eq, not_true_eq_false, Nat.zero_add, Keep.refl, Option.some.injEq, exists_eq_left', Nat.succ_ne_self, want, dstOk, opR, ev, entry, argT, put_n, put_tmps, put_defers, selfRel, aNilNil, nilC_tmp, nilC_int, nilC_float, ↓bind_match, ↓reduceIte, Bool.false_eq_true, decide_true, Bool.or_self, Bool.false_eq_true, and_true, ABody, aResults, aResult, tupleOf, code174, rs174, aBin_int, intBin, aBin_fgt, h1, h2, h3]

theorem p174n {b : Nat} (hb : b ≤ fInf) : PureC P 174 [.float .f64 b, .int .i64 (-1)] (.bool false) := by
  refine PureC_of rfl fun H => ?_
  refine ACalls_K E (fnOf_ok P) mixed pur0_ok fn174 ok174 sx174 (by simp [nt174]) ?_
  simp only [nt174]
  have h1 : ((-1 : Int) == 0) = false := by decide
  have h2 : decide ((-1 : Int) < 0) = true := by decide
  simp (maxDischargeDepth := 40) only [Nat.reduceEqDiff, Nat.reduceLT, reduceCtorEq, WK_ret, WK_seq, WK_cond, WK_region, WLK_nil, WLK_cons, app_fin, app_seq_normal, ne_eq, not_true_eq_false, Nat.zero_add, Keep.refl, Option.some.injEq, exists_eq_left', Nat.succ_ne_self, want, dstOk, opR, ev, entry, argT, put_n, put_tmps, put_defers, selfRel, aNilNil, nilC_tmp, nilC_int, nilC_float, ↓bind_match, ↓reduceIte, Bool.false_eq_true, decide_true, Bool.or_self, Bool.false_eq_true, and_true, ABody, aResults, aResult, tupleOf, code174, rs174, aBin_int, intBin, aBin_fgt, aUn, h1, h2, neg_gt hb]

def L0 : PureF := fun g args =>
  match g, args with
  | 62, [.float .f64 b] => some (.int .u64 (textB b))
  | 69, [.float .f64 b] => some (.bool (nanB b))
  | 213, [.int .u64 _] => some (.bool false)
  | 96, [.int .i64 n] => if n = 1 then some (.float .f64 fInf) else none
  | 175, [.float .f64 b] => if b ≤ fInf then some (.bool false) else none
  | 174, [.float .f64 b, .int .i64 n] => if b ≤ fInf then (if n = 1 then some (.bool (b == fInf)) else if n = -1 then some (.bool false) else none) else none
  | _, _ => none

theorem L0_ok : PureOk P L0 := by
  intro g args v h
  unfold L0 at h
  split at h <;> try (cases h; done)
  · cases h; exact p62 _
  · cases h; exact p69 _
  · cases h; exact p213 _
  · split at h <;> cases h
    rename_i hn
    subst hn
    exact p96
  · split at h <;> cases h
    exact p175 (by assumption)
  · split at h <;> try (cases h; done)
    split at h
    · cases h
      rename_i hn
      subst hn
      exact p174 (by assumption)
    · split at h <;> cases h
      rename_i hn
      subst hn
      exact p174n (by assumption)

/-! the second row -/

def keyB (b : Nat) : Nat := if 9223372036854775808 ≤ textB b then 18446744073709551615 - textB b else textB b + 9223372036854775808

def cmpI (a b : Nat) : Int := if a < b then -1 else if b < a then 1 else 0

def kindB (b : Nat) : Int := if b = fInf then 5 else if b = 0 then 3 else 4

theorem or_sign {t : Nat} (h : t < 9223372036854775808) :
    IntKind.u64.wrap ((BitVec.ofInt IntKind.u64.bits (t : Int) ||| BitVec.ofInt IntKind.u64.bits 9223372036854775808).toNat : Int) = ((t + 9223372036854775808 : Nat) : Int) := by
  have hb : IntKind.u64.bits = 64 := rfl
  rw [wrap_u64, hb]
  congr 1
  rw [BitVec.toNat_or, BitVec.toNat_ofInt, BitVec.toNat_ofInt]
  have e1 : ((t : Int) % ((2 ^ 64 : Nat) : Int)).toNat = t := by
    have : ((2 ^ 64 : Nat) : Int) = 18446744073709551616 := by decide
    omega
  have e2 : ((9223372036854775808 : Int) % ((2 ^ 64 : Nat) : Int)).toNat = 2 ^ 63 := by decide
  rw [e1, e2]
  have e3 : t ||| 2 ^ 63 = 2 ^ 63 + t := by
    rw [Nat.or_comm]
    have := Nat.two_pow_add_eq_or_of_lt (i := 63) (b := t) (by omega) 1
    simpa using this.symm
  rw [e3]
  omega

theorem not_u64 {t : Nat} (h : t < 18446744073709551616) :
    IntKind.u64.wrap ((BitVec.ofInt IntKind.u64.bits (if IntKind.u64.signed = true then -1 else IntKind.u64.max) ^^^ BitVec.ofInt IntKind.u64.bits (t : Int)).toNat : Int) =
      ((18446744073709551615 - t : Nat) : Int) := by
  have hb : IntKind.u64.bits = 64 := rfl
  rw [wrap_u64, hb]
  congr 1
  have e0 : BitVec.ofInt 64 (if IntKind.u64.signed = true then -1 else IntKind.u64.max) = BitVec.allOnes 64 := by decide
  rw [e0, BitVec.allOnes_xor, BitVec.toNat_not, BitVec.toNat_ofInt]
  have e1 : ((t : Int) % ((2 ^ 64 : Nat) : Int)).toNat = t := by
    have : ((2 ^ 64 : Nat) : Int) = 18446744073709551616 := by decide
    omega
  rw [e1]
  omega

theorem p66 {b : Nat} (hb : b < 18446744073709551616) : PureC P 66 [.float .f64 b] (.int .u64 (keyB b)) := by
  refine PureC_of rfl fun H => ?_
  refine ACalls_K E (fnOf_ok P) mixed L0_ok fn66 ok66 sx66 (by simp [nt66]) ?_
  simp only [nt66]
  have ht := textB_lt hb
  by_cases h : 9223372036854775808 ≤ textB b
  · have h1 : decide ((textB b : Int) ≥ 9223372036854775808) = true := by simp; omega
    simp (maxDischargeDepth := 40) only [Nat.reduceEqDiff, Nat.reduceLT, reduceCtorEq, WK_ret, WK_seq, WK_cond, WK_region, WLK_nil, WLK_cons, app_fin, app_seq_normal, app_seq_ret, ne_eq, not_true_eq_false, List.cons_append, Keep.refl, Option.some.injEq, exists_eq_left', want, dstOk, opR, opE, opC, ev, evs, entry, argT, put_n, put_tmps, put_defers, selfRel, aNilNil, nilC_tmp, nilC_int, opCallR, ↓bind_match, ↓reduceIte, Bool.false_eq_true, decide_true, Bool.or_self, Bool.false_eq_true, and_true, List.cons_append, List.nil_append, ABody, aResults, aResult, tupleOf, code66, rs66, aBin_int, intBin, aUn, L0, fn62, ex62, h1, not_u64 ht, keyB, if_pos h]
  · have h1 : decide ((textB b : Int) ≥ 9223372036854775808) = false := by simp; omega
    simp (maxDischargeDepth := 40) only [Nat.reduceEqDiff, Nat.reduceLT, reduceCtorEq, WK_skip, WK_ret, WK_seq, WK_cond, WK_region, WLK_nil, WLK_cons, app_fin, app_seq_normal, ne_eq, not_true_eq_false, List.cons_append, Keep.refl, Option.some.injEq, exists_eq_left', want, dstOk, opR, opE, opC, ev, evs, entry, argT, put_n, put_tmps, put_defers, selfRel, aNilNil, nilC_tmp, nilC_int, opCallR, ↓bind_match, ↓reduceIte, Bool.false_eq_true, decide_true, Bool.or_self, Bool.false_eq_true, and_true, List.cons_append, List.nil_append, ABody, aResults, aResult, tupleOf, code66, rs66, aBin_int, intBin, L0, fn62, ex62, h1, or_sign (Nat.lt_of_not_le h), keyB, if_neg h]

theorem p41 (b : Nat) : PureC P 41 [.float .f64 b] (.int .u64 (textB b)) := by
  refine PureC_of rfl fun H => ?_
  refine ACalls_K E (fnOf_ok P) mixed L0_ok fn41 ok41 sx41 (by simp [nt41]) ?_
  simp only [nt41]
  by_cases h : nanB b = true
  · simp (maxDischargeDepth := 40) only [Nat.reduceLT, reduceCtorEq, WK_ret, WK_seq, WK_cond, WK_region, WLK_nil, WLK_cons, app_fin, app_seq_normal, app_seq_ret, List.cons_append, Keep.refl, Option.some.injEq, exists_eq_left', want, dstOk, opR, opE, opC, ev, evs, entry, argT, put_n, put_tmps, put_defers, selfRel, opCallR, ↓bind_match, ↓reduceIte, decide_true, true_and, and_true, List.cons_append, List.nil_append, ABody, aResults, aResult, tupleOf, code41, rs41, L0, fn69, ex69, h, textB]
    rfl
  · simp (maxDischargeDepth := 40) only [Nat.reduceLT, reduceCtorEq, WK_skip, WK_ret, WK_seq, WK_cond, WK_region, WLK_nil, WLK_cons, app_fin, app_seq_normal, List.cons_append, Keep.refl, Option.some.injEq, exists_eq_left', want, dstOk, opR, opE, opC, ev, evs, entry, argT, put_n, put_tmps, put_defers, selfRel, opCallR, ↓bind_match, ↓reduceIte, Bool.false_eq_true, decide_true, Bool.false_eq_true, and_true, List.cons_append, List.nil_append, ABody, aResults, aResult, tupleOf, code41, rs41, L0, fn69, ex69, ext70, h, textB]

theorem p173 (a b : Nat) : PureC P 173 [.int .u64 a, .int .u64 b] (.int .i64 (cmpI a b)) := by
  refine PureC_of rfl fun H => ?_
  refine ACalls_K E (fnOf_ok P) mixed L0_ok fn173 ok173 sx173 (by simp [nt173]) ?_
  simp only [nt173]
  have e1 : decide ((a : Int) < (b : Int)) = decide (a < b) := by simp
  have e2 : decide ((a : Int) > (b : Int)) = decide (b < a) := by simp
  by_cases h : a < b
  · simp (maxDischargeDepth := 40) only [Nat.reduceEqDiff, Nat.reduceLT, reduceCtorEq, WK_skip, WK_ret, WK_seq, WK_cond, WK_region, WLK_nil, WLK_cons, app_fin, app_seq_normal, app_seq_ret, ne_eq, not_true_eq_false, List.cons_append, Nat.zero_add, Keep.refl, Option.some.injEq, exists_eq_left', Nat.succ_ne_self, want, dstOk, opR, opE, opC, ev, evs, entry, argT, put_n, put_tmps, put_defers, selfRel, aNilNil, nilC_tmp, opCallR, ↓bind_match, ↓reduceIte, Bool.false_eq_true, decide_true, Bool.or_self, Bool.false_eq_true, and_true, List.cons_append, List.nil_append, ABody, aResults, aResult, tupleOf, code173, rs173, aBin_int, intBin, L0, fn213, ex213, e1, h, cmpI]
  · by_cases h2 : b < a
    · simp (maxDischargeDepth := 40) only [Nat.reduceEqDiff, Nat.reduceLT, reduceCtorEq, WK_skip, WK_ret, WK_seq, WK_cond, WK_region, WLK_nil, WLK_cons, app_fin, app_seq_normal, app_seq_ret, ne_eq, not_true_eq_false, List.cons_append, Nat.zero_add, Keep.refl, Option.some.injEq, exists_eq_left', Nat.succ_ne_self, want, dstOk, opR, opE, opC, ev, evs, entry, argT, put_n, put_tmps, put_defers, selfRel, aNilNil, nilC_tmp, opCallR, ↓bind_match, ↓reduceIte, Bool.false_eq_true, decide_true, decide_false, Bool.or_self, Bool.false_eq_true, and_true, List.cons_append, List.nil_append, ABody, aResults, aResult, tupleOf, code173, rs173, aBin_int, intBin, L0, fn213, ex213, e1, e2, h, h2, cmpI]
    · simp (maxDischargeDepth := 40) only [Nat.reduceEqDiff, Nat.reduceLT, reduceCtorEq, WK_skip, WK_ret, WK_seq, WK_cond, WK_region, WLK_nil, WLK_cons, app_fin, app_seq_normal, ne_eq, not_true_eq_false, List.cons_append, Nat.zero_add, Keep.refl, Option.some.injEq, exists_eq_left', Nat.succ_ne_self, want, dstOk, opR, opE, opC, ev, evs, entry, argT, put_n, put_tmps, put_defers, selfRel, aNilNil, nilC_tmp, opCallR, ↓bind_match, ↓reduceIte, Bool.false_eq_true, decide_true, decide_false, Bool.or_self, Bool.false_eq_true, and_true, List.cons_append, List.nil_append, ABody, aResults, aResult, tupleOf, code173, rs173, aBin_int, intBin, L0, fn213, ex213, e1, e2, h, h2, cmpI]

theorem p132 {b : Nat} (hb : b ≤ fInf) : PureC P 132 [.float .f64 b] (.int .i64 (kindB b)) := by
  refine PureC_of rfl fun H => ?_
  refine ACalls_K E (fnOf_ok P) mixed L0_ok fn132 ok132 sx132 (by simp [nt132]) ?_
  simp only [nt132]
  have h0 : (FloatKind.f64.format.order b 0 == some .lt) = false := by
    rw [order_pos hb (by decide), Bool.eq_false_iff]
    simp [Nat.compare_eq_lt]
  have h1 : (FloatKind.f64.format.order b 0 == some .gt) = decide (0 < b) := by
    rw [order_pos hb (by decide), Bool.eq_iff_iff]
    simp [Nat.compare_eq_gt]
  have n1 : ((-1 : Int) = 1) = False := by simp
  by_cases hi : b = fInf
  · subst hi
    simp (maxDischargeDepth := 40) only [Nat.reduceLT, reduceCtorEq, Nat.le_refl, WK_skip, WK_ret, WK_seq, WK_cond, WK_region, WLK_nil, WLK_cons, app_fin, app_seq_normal, app_seq_ret, List.cons_append, Keep.refl, Option.some.injEq, exists_eq_left', want, dstOk, opR, opE, opC, ev, evs, entry, argT, put_n, put_tmps, put_defers, selfRel, opCallR, ↓bind_match, ↓reduceIte, Bool.false_eq_true, decide_true, beq_self_eq_true, Bool.false_eq_true, and_true, List.cons_append, List.nil_append, ABody, aResults, aResult, tupleOf, code132, rs132, L0, fn69, ex69, fn174, ex174, nanB_pos hb, n1, kindB, beq_self_eq_true]
  · have hi' : (b == fInf) = false := by simpa using hi
    by_cases hz : b = 0
    · have : decide (0 < b) = false := by simp; omega
      simp (maxDischargeDepth := 40) only [Nat.reduceLT, reduceCtorEq, WK_skip, WK_ret, WK_seq, WK_cond, WK_region, WLK_nil, WLK_cons, app_fin, app_seq_normal, List.cons_append, Keep.refl, Option.some.injEq, exists_eq_left', want, dstOk, opR, opE, opC, ev, evs, entry, argT, put_n, put_tmps, put_defers, selfRel, aNilNil, nilC_tmp, nilC_float, opCallR, ↓bind_match, ↓reduceIte, Bool.false_eq_true, decide_true, Bool.or_self, Bool.false_eq_true, and_true, List.cons_append, List.nil_append, ABody, aResults, aResult, tupleOf, code132, rs132, L0, fn69, ex69, fn174, ex174, fn175, ex175, nanB_pos hb, if_pos hb, n1, kindB, aBin_flt, aBin_fgt, h0, h1, this, if_neg hi, if_pos hz, hi']
    · have : decide (0 < b) = true := by simp; omega
      simp (maxDischargeDepth := 40) only [Nat.reduceLT, reduceCtorEq, WK_skip, WK_ret, WK_seq, WK_cond, WK_region, WLK_nil, WLK_cons, app_fin, app_seq_normal, app_seq_ret, List.cons_append, Keep.refl, Option.some.injEq, exists_eq_left', want, dstOk, opR, opE, opC, ev, evs, entry, argT, put_n, put_tmps, put_defers, selfRel, aNilNil, nilC_tmp, nilC_float, opCallR, ↓bind_match, ↓reduceIte, Bool.false_eq_true, decide_true, Bool.or_self, Bool.false_eq_true, and_true, List.cons_append, List.nil_append, ABody, aResults, aResult, tupleOf, code132, rs132, L0, fn69, ex69, fn174, ex174, nanB_pos hb, if_pos hb, n1, kindB, aBin_flt, aBin_fgt, h0, h1, this, if_neg hi, if_neg hz, hi']

def L1 : PureF := fun g args =>
  match g, args with
  | 66, [.float .f64 b] => if b < 18446744073709551616 then some (.int .u64 (keyB b)) else none
  | 41, [.float .f64 b] => some (.int .u64 (textB b))
  | 173, [.int .u64 (.ofNat a), .int .u64 (.ofNat b)] => some (.int .i64 (cmpI a b))
  | 132, [.float .f64 b] => if b ≤ fInf then some (.int .i64 (kindB b)) else none
  | _, _ => none

theorem L1_ok : PureOk P L1 := by
  intro g args v h
  unfold L1 at h
  split at h <;> try (cases h; done)
  · split at h <;> cases h
    exact p66 (by assumption)
  · cases h; exact p41 _
  · cases h; exact p173 _ _
  · split at h <;> cases h
    exact p132 (by assumption)

def pur1 : PureF := altP L0 L1
theorem pur1_ok : PureOk P pur1 := altP_ok L0_ok L1_ok

theorem pur1_173 (a b : Nat) : pur1 173 [.int .u64 (a : Int), .int .u64 (b : Int)] = some (.int .i64 (cmpI a b)) := rfl
theorem pur1_66 {b : Nat} (h : b < 18446744073709551616) : pur1 66 [.float .f64 b] = some (.int .u64 (keyB b)) := by
  have : pur1 66 [.float .f64 b] = if b < 18446744073709551616 then some (.int .u64 (keyB b)) else none := rfl
  rw [this, if_pos h]
theorem pur1_96 : pur1 96 [.int .i64 1] = some (.float .f64 fInf) := rfl
theorem pur1_132 {b : Nat} (h : b ≤ fInf) : pur1 132 [.float .f64 b] = some (.int .i64 (kindB b)) := by
  have : pur1 132 [.float .f64 b] = if b ≤ fInf then some (.int .i64 (kindB b)) else none := rfl
  rw [this, if_pos h]

/-! the third row -/

theorem cmpI_eq {a b : Nat} : cmpI a b = if a < b then -1 else if b < a then 1 else 0 := rfl

theorem p131 {a b : Nat} (ha : a < 18446744073709551616) (hb : b < 18446744073709551616) : PureC P 131 [.float .f64 a, .float .f64 b] (.int .i64 (cmpI (keyB a) (keyB b))) := by
  refine PureC_of rfl fun H => ?_
  refine ACalls_K E (fnOf_ok P) mixed pur1_ok fn131 ok131 sx131 (by simp [nt131]) ?_
  simp only [nt131]
  simp (maxDischargeDepth := 40) only [Nat.reduceEqDiff, Nat.reduceLT, reduceCtorEq, WK_ret, WK_seq, WK_region, WLK_nil, WLK_cons, app_fin, app_seq_normal, List.cons_append, Nat.zero_add, Keep.refl, Option.some.injEq, exists_eq_left', Nat.succ_ne_self, want, dstOk, opR, opE, opC, ev, evs, entry, argT, put_n, put_tmps, put_defers, selfRel, opCallR, ↓bind_match, ↓reduceIte, decide_true, and_true, List.cons_append, List.nil_append, ABody, aResults, aResult, tupleOf, code131, rs131, pur1_173, pur1_66 ha, pur1_66 hb, fn66, ex66, fn173, ex173]

theorem p36 {a b : Nat} (ha : a < 18446744073709551616) (hb : b < 18446744073709551616) : PureC P 36 [.float .f64 a, .float .f64 b] (.bool (keyB a == keyB b)) := by
  refine PureC_of rfl fun H => ?_
  refine ACalls_K E (fnOf_ok P) mixed pur1_ok fn36 ok36 sx36 (by simp [nt36]) ?_
  simp only [nt36]
  have e : ((keyB a : Int) == (keyB b : Int)) = (keyB a == keyB b) := by rw [Bool.eq_iff_iff]; simp only [beq_iff_eq]; omega
  simp (maxDischargeDepth := 40) only [Nat.reduceEqDiff, Nat.reduceLT, reduceCtorEq, WK_ret, WK_seq, WK_region, WLK_nil, WLK_cons, app_fin, app_seq_normal, ne_eq, not_true_eq_false, List.cons_append, Nat.zero_add, Keep.refl, Option.some.injEq, exists_eq_left', Nat.succ_ne_self, want, dstOk, opR, opE, opC, ev, evs, entry, argT, put_n, put_tmps, put_defers, selfRel, aNilNil, nilC_tmp, opCallR, ↓bind_match, ↓reduceIte, Bool.false_eq_true, decide_true, Bool.or_self, Bool.false_eq_true, and_true, List.cons_append, List.nil_append, ABody, aResults, aResult, tupleOf, code36, rs36, pur1_66 ha, pur1_66 hb, fn66, ex66, aBin_int, intBin, e]

theorem p93 {p a : Nat} (hp : p < 18446744073709551616) (ha : a < 18446744073709551616) : PureC P 93 [.int .u64 p, .int .u64 a] (.float .f64 (fRatio p a)) := by
  refine PureC_of rfl fun H => ?_
  refine ACalls_K E (fnOf_ok P) mixed pur1_ok fn93 ok93 sx93 (by simp [nt93]) ?_
  simp only [nt93]
  have e1 : ((p : Int) == 0) = (p == 0) := by rw [Bool.eq_iff_iff]; simp
  have e2 : ((a : Int) == 0) = (a == 0) := by rw [Bool.eq_iff_iff]; simp
  by_cases h : p = 0
  · have h1 : (p == 0) = true := by simp [h]
    by_cases h2 : a = 0
    · have h3 : (a == 0) = true := by simp [h2]
      have hr : fRatio p a = 0 := by simp [fRatio, h, h2]
      simp (maxDischargeDepth := 40) only [Nat.reduceEqDiff, Nat.reduceLT, reduceCtorEq, WK_ret, WK_seq, WK_cond, WK_region, WLK_nil, WLK_cons, app_fin, app_seq_normal, app_seq_ret, ne_eq, not_true_eq_false, Nat.zero_add, Keep.refl, Option.some.injEq, exists_eq_left', Nat.succ_ne_self, want, dstOk, opR, ev, entry, argT, put_n, put_tmps, put_defers, selfRel, aNilNil, nilC_tmp, nilC_int, ↓bind_match, ↓reduceIte, Bool.false_eq_true, decide_true, Bool.or_self, beq_self_eq_true, Bool.false_eq_true, and_true, List.getElem?_toArray, List.getElem?_cons_zero, List.getElem?_cons_succ, ABody, aResults, aResult, tupleOf, code93, rs93, aBin_int, intBin, e1, e2, h1, h3, hr]
    · have h3 : (a == 0) = false := by simp [h2]
      obtain ⟨r, hr, _, _⟩ := div_counts hp ha (by omega)
      have hq : fRatio p a = r := by simp [fRatio, h2, hr]
      simp (maxDischargeDepth := 40) only [Nat.reduceEqDiff, Nat.reduceLT, reduceCtorEq, WK_skip, WK_ret, WK_seq, WK_cond, WK_region, WLK_nil, WLK_cons, app_fin, app_seq_normal, ne_eq, not_true_eq_false, Nat.zero_add, Keep.refl, Option.some.injEq, exists_eq_left', aConvert, Nat.succ_ne_self, want, dstOk, opR, ev, entry, argT, put_n, put_tmps, put_defers, selfRel, aNilNil, nilC_tmp, nilC_int, ↓bind_match, ↓reduceIte, Bool.false_eq_true, decide_true, Bool.or_self, beq_self_eq_true, Bool.false_eq_true, and_true, List.getElem?_toArray, List.getElem?_cons_zero, List.getElem?_cons_succ, ABody, aResults, aResult, tupleOf, code93, rs93, aBin_int, intBin, e1, e2, h1, h3, ty30, ty76, aBin_fquo hr, hq]
  · have h1 : (p == 0) = false := by simp [h]
    obtain ⟨r, hr, _, _⟩ := div_counts hp ha (by omega)
    have hq : fRatio p a = r := by simp [fRatio, h, hr]
    simp (maxDischargeDepth := 40) only [Nat.reduceEqDiff, Nat.reduceLT, reduceCtorEq, WK_skip, WK_ret, WK_seq, WK_cond, WK_region, WLK_nil, WLK_cons, app_fin, app_seq_normal, ne_eq, not_true_eq_false, Nat.zero_add, Keep.refl, Option.some.injEq, exists_eq_left', aConvert, Nat.succ_ne_self, want, dstOk, opR, ev, entry, argT, put_n, put_tmps, put_defers, selfRel, aNilNil, nilC_tmp, nilC_int, ↓bind_match, ↓reduceIte, Bool.false_eq_true, decide_true, Bool.or_self, beq_true, Bool.false_eq_true, and_true, List.getElem?_toArray, List.getElem?_cons_zero, List.getElem?_cons_succ, ABody, aResults, aResult, tupleOf, code93, rs93, aBin_int, intBin, e1, h1, ty30, ty76, aBin_fquo hr, hq]

theorem p72 {p a : Nat} (hp : p < 18446744073709551616) (ha : a < 18446744073709551616) : PureC P 72 [.int .u64 p, .int .u64 a] (.float .f64 (fRatio p a)) := by
  refine PureC_of rfl fun H => ?_
  refine ACalls_K E (fnOf_ok P) mixed pur1_ok fn72 ok72 sx72 (by simp [nt72]) ?_
  simp only [nt72]
  have e1 : ((p : Int) == 0) = (p == 0) := by rw [Bool.eq_iff_iff]; simp
  have e2 : ((a : Int) == 0) = (a == 0) := by rw [Bool.eq_iff_iff]; simp
  by_cases h2 : a = 0
  · have h3 : (a == 0) = true := by simp [h2]
    by_cases h : p = 0
    · have h1 : (p == 0) = true := by simp [h]
      have hr : fRatio p a = 0 := by simp [fRatio, h, h2]
      simp (maxDischargeDepth := 40) only [Nat.reduceEqDiff, Nat.reduceLT, reduceCtorEq, WK_ret, WK_seq, WK_cond, WK_region, WLK_nil, WLK_cons, app_fin, app_seq_normal, app_seq_ret, ne_eq, not_true_eq_false, Nat.zero_add, Keep.refl, Option.some.injEq, exists_eq_left', Nat.succ_ne_self, want, dstOk, opR, ev, entry, argT, put_n, put_tmps, put_defers, selfRel, aNilNil, nilC_tmp, nilC_int, ↓bind_match, ↓reduceIte, Bool.false_eq_true, decide_true, Bool.or_self, Bool.false_eq_true, and_true, ABody, aResults, aResult, tupleOf, code72, rs72, aBin_int, intBin, e1, e2, h1, h3, hr]
    · have h1 : (p == 0) = false := by simp [h]
      obtain ⟨r, hr, _, hi⟩ := div_counts hp ha (by omega)
      have hq : fRatio p a = fInf := by simp [fRatio, h, hr, hi h2]
      simp (maxDischargeDepth := 40) only [Nat.reduceEqDiff, Nat.reduceLT, reduceCtorEq, WK_skip, WK_ret, WK_seq, WK_cond, WK_region, WLK_nil, WLK_cons, app_fin, app_seq_normal, app_seq_ret, ne_eq, not_true_eq_false, List.cons_append, Nat.zero_add, Keep.refl, Option.some.injEq, exists_eq_left', Nat.succ_ne_self, want, dstOk, opR, opE, opC, ev, evs, entry, argT, put_n, put_tmps, put_defers, selfRel, aNilNil, nilC_tmp, nilC_int, opCallR, ↓bind_match, ↓reduceIte, Bool.false_eq_true, decide_true, Bool.or_self, Bool.false_eq_true, and_true, List.cons_append, List.nil_append, ABody, aResults, aResult, tupleOf, code72, rs72, aBin_int, intBin, e1, e2, h1, h3, hq, pur1_96, fn96, ex96]
  · have h3 : (a == 0) = false := by simp [h2]
    obtain ⟨r, hr, _, _⟩ := div_counts hp ha (by omega)
    have hq : fRatio p a = r := by simp [fRatio, h2, hr]
    simp (maxDischargeDepth := 40) only [Nat.reduceEqDiff, Nat.reduceLT, reduceCtorEq, WK_skip, WK_ret, WK_seq, WK_cond, WK_region, WLK_nil, WLK_cons, app_fin, app_seq_normal, ne_eq, not_true_eq_false, Nat.zero_add, Keep.refl, Option.some.injEq, exists_eq_left', aConvert, Nat.succ_ne_self, want, dstOk, opR, ev, entry, argT, put_n, put_tmps, put_defers, selfRel, aNilNil, nilC_tmp, nilC_int, ↓bind_match, ↓reduceIte, Bool.false_eq_true, decide_true, Bool.or_self, Bool.false_eq_true, and_true, ABody, aResults, aResult, tupleOf, code72, rs72, aBin_int, intBin, e2, h3, ty30, ty76, aBin_fquo hr, hq]

theorem p95 {a b : Nat} (ha : a ≤ fInf) (hb : b ≤ fInf) : PureC P 95 [.float .f64 a, .float .f64 b] (.int .i64 (cmpI a b)) := by
  refine PureC_of rfl fun H => ?_
  refine ACalls_K E (fnOf_ok P) mixed pur1_ok fn95 ok95 sx95 (by simp [nt95]) ?_
  simp only [nt95]
  have k : kindB a = kindB b ∨ kindB a < kindB b ∧ a < b ∨ kindB b < kindB a ∧ b < a := by
    unfold kindB
    have : (0 : Nat) < fInf := by decide
    split <;> split <;> (try split) <;> (try split) <;> omega
  have e1 : (FloatKind.f64.format.order a b == some .lt) = decide (a < b) := by
    rw [order_pos ha hb, Bool.eq_iff_iff]
    simp [Nat.compare_eq_lt]
  have e2 : (FloatKind.f64.format.order a b == some .gt) = decide (b < a) := by
    rw [order_pos ha hb, Bool.eq_iff_iff]
    simp [Nat.compare_eq_gt]
  have n1 : (kindB a == 1) = false := by
    unfold kindB
    split
    · decide
    · split <;> decide
  rcases k with k | ⟨k, hab⟩ | ⟨k, hab⟩
  · have h1 : (kindB a != kindB b) = false := by simp [k]
    by_cases h4 : kindB a = 4
    · have h4' : (kindB a == 4) = true := by simp [h4]
      by_cases hl : a < b
      · have d1 : decide (a < b) = true := by simp [hl]
        simp (maxDischargeDepth := 40) only [Nat.reduceEqDiff, Nat.reduceLT, reduceCtorEq, WK_skip, WK_ret, WK_seq, WK_cond, WK_region, WLK_nil, WLK_cons, app_fin, app_seq_normal, app_seq_ret, ne_eq, not_true_eq_false, List.cons_append, Nat.zero_add, Keep.refl, Option.some.injEq, exists_eq_left', Nat.succ_ne_self, want, dstOk, opR, opE, opC, ev, evs, entry, argT, put_n, put_tmps, put_defers, selfRel, aNilNil, nilC_tmp, nilC_int, opCallR, ↓bind_match, ↓reduceIte, Bool.false_eq_true, decide_true, Bool.or_self, beq_self_eq_true, Bool.false_eq_true, and_true, List.getElem?_toArray, List.getElem?_cons_zero, List.getElem?_cons_succ, List.cons_append, List.nil_append, ABody, aResults, aResult, tupleOf, code95, rs95, aBin_int, intBin, pur1_132 ha, pur1_132 hb, fn132, ex132, aBin_flt, e1, h1, h4', n1, d1, cmpI, if_pos hl]
      · have d1 : decide (a < b) = false := by simp [Nat.le_of_not_lt hl]
        by_cases hg : b < a
        · have d2 : decide (b < a) = true := by simp [hg]
          simp (maxDischargeDepth := 40) only [Nat.reduceEqDiff, Nat.reduceLT, reduceCtorEq, WK_skip, WK_ret, WK_seq, WK_cond, WK_region, WLK_nil, WLK_cons, app_fin, app_seq_normal, app_seq_ret, ne_eq, not_true_eq_false, List.cons_append, Nat.zero_add, Keep.refl, Option.some.injEq, exists_eq_left', Nat.succ_ne_self, want, dstOk, opR, opE, opC, ev, evs, entry, argT, put_n, put_tmps, put_defers, selfRel, aNilNil, nilC_tmp, nilC_int, opCallR, ↓bind_match, ↓reduceIte, Bool.false_eq_true, decide_true, Bool.or_self, beq_self_eq_true, Bool.false_eq_true, and_true, List.getElem?_toArray, List.getElem?_cons_zero, List.getElem?_cons_succ, List.cons_append, List.nil_append, ABody, aResults, aResult, tupleOf, code95, rs95, aBin_int, intBin, pur1_132 ha, pur1_132 hb, fn132, ex132, aBin_flt, aBin_fgt, e1, e2, h1, h4', n1, d1, d2, cmpI, if_neg hl, if_pos hg]
        · have d2 : decide (b < a) = false := by simp [Nat.le_of_not_lt hg]
          simp (maxDischargeDepth := 40) only [Nat.reduceEqDiff, Nat.reduceLT, reduceCtorEq, WK_skip, WK_ret, WK_seq, WK_cond, WK_region, WLK_nil, WLK_cons, app_fin, app_seq_normal, ne_eq, not_true_eq_false, List.cons_append, Nat.zero_add, Keep.refl, Option.some.injEq, exists_eq_left', Nat.succ_ne_self, want, dstOk, opR, opE, opC, ev, evs, entry, argT, put_n, put_tmps, put_defers, selfRel, aNilNil, nilC_tmp, nilC_int, opCallR, ↓bind_match, ↓reduceIte, Bool.false_eq_true, decide_true, Bool.or_self, beq_self_eq_true, Bool.false_eq_true, and_true, List.getElem?_toArray, List.getElem?_cons_zero, List.getElem?_cons_succ, List.cons_append, List.nil_append, ABody, aResults, aResult, tupleOf, code95, rs95, aBin_int, intBin, pur1_132 ha, pur1_132 hb, fn132, ex132, aBin_flt, aBin_fgt, e1, e2, h1, h4', n1, d1, d2, cmpI, if_neg hl, if_neg hg]
    · have h4' : (kindB a == 4) = false := by simp [h4]
      have hab : a = b := by
        revert k h4
        unfold kindB
        split <;> split <;> (try split) <;> (try split) <;> intro k h4 <;> omega
      have c0 : cmpI a b = 0 := by simp [cmpI, hab]
      simp (maxDischargeDepth := 40) only [Nat.reduceEqDiff, Nat.reduceLT, reduceCtorEq, WK_skip, WK_ret, WK_seq, WK_cond, WK_region, WLK_nil, WLK_cons, app_fin, app_seq_normal, ne_eq, not_true_eq_false, List.cons_append, Nat.zero_add, Keep.refl, Option.some.injEq, exists_eq_left', Nat.succ_ne_self, want, dstOk, opR, opE, opC, ev, evs, entry, argT, put_n, put_tmps, put_defers, selfRel, aNilNil, nilC_tmp, nilC_int, opCallR, ↓bind_match, ↓reduceIte, Bool.false_eq_true, decide_true, Bool.or_self, beq_self_eq_true, Bool.false_eq_true, and_true, List.getElem?_toArray, List.getElem?_cons_zero, List.getElem?_cons_succ, List.cons_append, List.nil_append, ABody, aResults, aResult, tupleOf, code95, rs95, aBin_int, intBin, pur1_132 ha, pur1_132 hb, fn132, ex132, h1, h4', n1, c0]
  · have h1 : (kindB a != kindB b) = true := by simp; omega
    have d1 : decide (kindB a < kindB b) = true := by simp [k]
    have c0 : cmpI a b = -1 := by simp [cmpI, hab]
    simp (maxDischargeDepth := 40) only [Nat.reduceEqDiff, Nat.reduceLT, reduceCtorEq, WK_ret, WK_seq, WK_cond, WK_region, WLK_nil, WLK_cons, app_fin, app_seq_normal, app_seq_ret, ne_eq, not_true_eq_false, List.cons_append, Nat.zero_add, Keep.refl, Option.some.injEq, exists_eq_left', Nat.succ_ne_self, want, dstOk, opR, opE, opC, ev, evs, entry, argT, put_n, put_tmps, put_defers, selfRel, aNilNil, nilC_tmp, opCallR, ↓bind_match, ↓reduceIte, Bool.false_eq_true, decide_true, Bool.or_self, Bool.false_eq_true, and_true, List.cons_append, List.nil_append, ABody, aResults, aResult, tupleOf, code95, rs95, aBin_int, intBin, pur1_132 ha, pur1_132 hb, fn132, ex132, h1, d1, c0]
  · have h1 : (kindB a != kindB b) = true := by simp; omega
    have d1 : decide (kindB a < kindB b) = false := by simp; omega
    have c0 : cmpI a b = 1 := by
      have : ¬ a < b := by omega
      simp [cmpI, hab, this]
    simp (maxDischargeDepth := 40) only [Nat.reduceEqDiff, Nat.reduceLT, reduceCtorEq, WK_skip, WK_ret, WK_seq, WK_cond, WK_region, WLK_nil, WLK_cons, app_fin, app_seq_normal, app_seq_ret, ne_eq, not_true_eq_false, List.cons_append, Nat.zero_add, Keep.refl, Option.some.injEq, exists_eq_left', Nat.succ_ne_self, want, dstOk, opR, opE, opC, ev, evs, entry, argT, put_n, put_tmps, put_defers, selfRel, aNilNil, nilC_tmp, opCallR, ↓bind_match, ↓reduceIte, Bool.false_eq_true, decide_true, Bool.or_self, Bool.false_eq_true, and_true, List.cons_append, List.nil_append, ABody, aResults, aResult, tupleOf, code95, rs95, aBin_int, intBin, pur1_132 ha, pur1_132 hb, fn132, ex132, h1, d1, c0]

end Go.Am.Q

/- Functions that answer out of their arguments: health. -/
set_option linter.unusedSimpArgs false
set_option linter.unusedSectionVars false
set_option maxRecDepth 20000
namespace Go.Am.Q
open Go Go.Am Go.Proofs
variable [F : Fr]

def L2 : PureF := fun g args =>
  match g, args with
  | 131, [.float .f64 a, .float .f64 b] => if a < 18446744073709551616 ∧ b < 18446744073709551616 then some (.int .i64 (cmpI (keyB a) (keyB b))) else none
  | 36, [.float .f64 a, .float .f64 b] => if a < 18446744073709551616 ∧ b < 18446744073709551616 then some (.bool (keyB a == keyB b)) else none
  | 93, [.int .u64 (.ofNat p), .int .u64 (.ofNat a)] => if p < 18446744073709551616 ∧ a < 18446744073709551616 then some (.float .f64 (fRatio p a)) else none
  | 72, [.int .u64 (.ofNat p), .int .u64 (.ofNat a)] => if p < 18446744073709551616 ∧ a < 18446744073709551616 then some (.float .f64 (fRatio p a)) else none
  | 95, [.float .f64 a, .float .f64 b] => if a ≤ fInf ∧ b ≤ fInf then some (.int .i64 (cmpI a b)) else none
  | _, _ => none

theorem L2_ok : PureOk P L2 := by
  intro g args v h
  unfold L2 at h
  split at h <;> try (cases h; done)
  · split at h <;> cases h
    rename_i hc
    exact p131 hc.1 hc.2
  · split at h <;> cases h
    rename_i hc
    exact p36 hc.1 hc.2
  · split at h <;> cases h
    rename_i hc
    exact p93 hc.1 hc.2
  · split at h <;> cases h
    rename_i hc
    exact p72 hc.1 hc.2
  · split at h <;> cases h
    rename_i hc
    exact p95 hc.1 hc.2

def pur2 : PureF := altP pur1 L2
theorem pur2_ok : PureOk P pur2 := altP_ok pur1_ok L2_ok

theorem pur2_131 {a b : Nat} (ha : a < 18446744073709551616) (hb : b < 18446744073709551616) : pur2 131 [.float .f64 a, .float .f64 b] = some (.int .i64 (cmpI (keyB a) (keyB b))) := by
  have : pur2 131 [.float .f64 a, .float .f64 b] = if a < 18446744073709551616 ∧ b < 18446744073709551616 then some (.int .i64 (cmpI (keyB a) (keyB b))) else none := rfl
  rw [this, if_pos ⟨ha, hb⟩]
theorem pur2_95 {a b : Nat} (ha : a ≤ fInf) (hb : b ≤ fInf) : pur2 95 [.float .f64 a, .float .f64 b] = some (.int .i64 (cmpI a b)) := by
  have : pur2 95 [.float .f64 a, .float .f64 b] = if a ≤ fInf ∧ b ≤ fInf then some (.int .i64 (cmpI a b)) else none := rfl
  rw [this, if_pos ⟨ha, hb⟩]

theorem keyB_pos {b : Nat} (h : b ≤ fInf) : keyB b = b + 9223372036854775808 := by
  unfold keyB
  rw [textB_pos h, if_neg (by simp only [fInf] at h; omega)]

theorem cmp_keyB {a b : Nat} (ha : a ≤ fInf) (hb : b ≤ fInf) : cmpI (keyB a) (keyB b) = cmpI a b := by
  rw [keyB_pos ha, keyB_pos hb]
  unfold cmpI
  simp

def clampB (x : Nat) : Nat := min x fOne

theorem p92 {x : Nat} (h : x ≤ fInf) : PureC P 92 [.float .f64 x, .float .f64 0, .float .f64 4607182418800017408] (.float .f64 (clampB x)) := by
  refine PureC_of rfl fun H => ?_
  refine ACalls_K E (fnOf_ok P) mixed pur2_ok fn92 ok92 sx92 (by simp [nt92]) ?_
  simp only [nt92]
  have hx : x < 18446744073709551616 := by simp only [fInf] at h; omega
  have h1 : pur2 131 [.float .f64 x, .float .f64 0] = some (.int .i64 (cmpI x 0)) := by rw [pur2_131 hx (by decide), cmp_keyB h (by decide)]
  have h2 : pur2 131 [.float .f64 4607182418800017408, .float .f64 0] = some (.int .i64 1) := by rw [pur2_131 (by decide) (by decide), cmp_keyB (by decide) (by decide)]; rfl
  have h3 : pur2 131 [.float .f64 x, .float .f64 4607182418800017408] = some (.int .i64 (cmpI x fOne)) := by rw [pur2_131 hx (by decide), cmp_keyB h (by decide)]
  have d1 : decide (cmpI x 0 < 0) = false := by
    have : ¬ x < 0 := by omega
    simp only [cmpI, if_neg this]
    split <;> decide
  have d2 : decide ((1 : Int) < 0) = false := by decide
  by_cases hc : fOne < x
  · have d3 : decide (cmpI x fOne > 0) = true := by
      have : ¬ x < fOne := by omega
      simp only [cmpI, if_neg this, if_pos hc]
      decide
    have hm : clampB x = 4607182418800017408 := by unfold clampB; exact Nat.min_eq_right (Nat.le_of_lt hc)
    simp (maxDischargeDepth := 40) only [Nat.reduceEqDiff, Nat.reduceLT, reduceCtorEq, Nat.reduceAdd, WK_ret, WK_seq, WK_cond, WK_block, WK_region, WLK_nil, WLK_cons, app_fin, app_seq_normal, app_seq_ret, app_block_ret, ne_eq, not_true_eq_false, List.cons_append, Nat.zero_add, Keep.refl, Option.some.injEq, exists_eq_left', Nat.succ_ne_self, want, dstOk, opR, opE, opC, ev, evs, entry, argT, put_n, put_tmps, put_defers, selfRel, aNilNil, nilC_tmp, nilC_int, opCallR, ↓bind_match, ↓reduceIte, Bool.false_eq_true, decide_true, Bool.or_self, beq_self_eq_true, Bool.false_eq_true, and_true, List.getElem?_toArray, List.getElem?_cons_zero, List.getElem?_cons_succ, List.cons_append, List.nil_append, ABody, aResults, aResult, tupleOf, code92, rs92, aBin_int, intBin, fn131, ex131, h1, h2, h3, d1, d2, d3, hm]
  · have d3 : decide (cmpI x fOne > 0) = false := by
      simp only [cmpI, if_neg hc]
      split <;> decide
    have hm : clampB x = x := by unfold clampB; exact Nat.min_eq_left (Nat.le_of_not_lt hc)
    simp (maxDischargeDepth := 40) only [Nat.reduceEqDiff, Nat.reduceLT, reduceCtorEq, Nat.reduceAdd, WK_skip, WK_ret, WK_seq, WK_cond, WK_block, WK_region, WLK_nil, WLK_cons, app_fin, app_seq_normal, app_block_normal, ne_eq, not_true_eq_false, List.cons_append, Nat.zero_add, Keep.refl, Option.some.injEq, exists_eq_left', Nat.succ_ne_self, want, dstOk, opR, opE, opC, ev, evs, entry, argT, put_n, put_tmps, put_defers, selfRel, aNilNil, nilC_tmp, nilC_int, opCallR, ↓bind_match, ↓reduceIte, Bool.false_eq_true, decide_true, Bool.or_self, beq_self_eq_true, Bool.false_eq_true, and_true, List.getElem?_toArray, List.getElem?_cons_zero, List.getElem?_cons_succ, List.cons_append, List.nil_append, ABody, aResults, aResult, tupleOf, code92, rs92, aBin_int, intBin, fn131, ex131, h1, h2, h3, d1, d2, d3, hm]

theorem p71 {x : Nat} (h : x ≤ fInf) : PureC P 71 [.float .f64 x, .float .f64 0, .float .f64 4607182418800017408] (.float .f64 (clampB x)) := by
  refine PureC_of rfl fun H => ?_
  refine ACalls_K E (fnOf_ok P) mixed pur2_ok fn71 ok71 sx71 (by simp [nt71]) ?_
  simp only [nt71]
  have h1 : pur2 95 [.float .f64 x, .float .f64 0] = some (.int .i64 (cmpI x 0)) := pur2_95 h (by decide)
  have h2 : pur2 95 [.float .f64 4607182418800017408, .float .f64 0] = some (.int .i64 1) := by rw [pur2_95 (by decide) (by decide)]; rfl
  have h3 : pur2 95 [.float .f64 x, .float .f64 4607182418800017408] = some (.int .i64 (cmpI x fOne)) := pur2_95 h (by decide)
  have d1 : decide (cmpI x 0 < 0) = false := by
    have : ¬ x < 0 := by omega
    simp only [cmpI, if_neg this]
    split <;> decide
  have d2 : decide ((1 : Int) < 0) = false := by decide
  by_cases hc : fOne < x
  · have d3 : decide (cmpI x fOne > 0) = true := by
      have : ¬ x < fOne := by omega
      simp only [cmpI, if_neg this, if_pos hc]
      decide
    have hm : clampB x = 4607182418800017408 := by unfold clampB; exact Nat.min_eq_right (Nat.le_of_lt hc)
    simp (maxDischargeDepth := 40) only [Nat.reduceEqDiff, Nat.reduceLT, reduceCtorEq, Nat.reduceAdd, WK_skip, WK_ret, WK_seq, WK_cond, WK_region, WLK_nil, WLK_cons, app_fin, app_seq_normal, app_seq_ret, ne_eq, not_true_eq_false, List.cons_append, Nat.zero_add, Keep.refl, Option.some.injEq, exists_eq_left', Nat.succ_ne_self, want, dstOk, opR, opE, opC, ev, evs, entry, argT, put_n, put_tmps, put_defers, selfRel, aNilNil, nilC_tmp, nilC_int, opCallR, ↓bind_match, ↓reduceIte, Bool.false_eq_true, decide_true, Bool.or_self, beq_self_eq_true, Bool.false_eq_true, and_true, List.getElem?_toArray, List.getElem?_cons_zero, List.getElem?_cons_succ, List.cons_append, List.nil_append, ABody, aResults, aResult, tupleOf, code71, rs71, aBin_int, intBin, fn95, ex95, h1, h2, h3, d1, d2, d3, hm]
  · have d3 : decide (cmpI x fOne > 0) = false := by
      simp only [cmpI, if_neg hc]
      split <;> decide
    have hm : clampB x = x := by unfold clampB; exact Nat.min_eq_left (Nat.le_of_not_lt hc)
    simp (maxDischargeDepth := 40) only [Nat.reduceEqDiff, Nat.reduceLT, reduceCtorEq, Nat.reduceAdd, WK_skip, WK_ret, WK_seq, WK_cond, WK_region, WLK_nil, WLK_cons, app_fin, app_seq_normal, ne_eq, not_true_eq_false, List.cons_append, Nat.zero_add, Keep.refl, Option.some.injEq, exists_eq_left', Nat.succ_ne_self, want, dstOk, opR, opE, opC, ev, evs, entry, argT, put_n, put_tmps, put_defers, selfRel, aNilNil, nilC_tmp, nilC_int, opCallR, ↓bind_match, ↓reduceIte, Bool.false_eq_true, decide_true, Bool.or_self, beq_self_eq_true, Bool.false_eq_true, and_true, List.getElem?_toArray, List.getElem?_cons_zero, List.getElem?_cons_succ, List.cons_append, List.nil_append, ABody, aResults, aResult, tupleOf, code71, rs71, aBin_int, intBin, fn95, ex95, h1, h2, h3, d1, d2, d3, hm]

def L3 : PureF := fun g args =>
  match g, args with
  | 92, [.float .f64 x, .float .f64 a, .float .f64 b] => if x ≤ fInf ∧ a = 0 ∧ b = 4607182418800017408 then some (.float .f64 (clampB x)) else none
  | 71, [.float .f64 x, .float .f64 a, .float .f64 b] => if x ≤ fInf ∧ a = 0 ∧ b = 4607182418800017408 then some (.float .f64 (clampB x)) else none
  | _, _ => none

theorem L3_ok : PureOk P L3 := by
  intro g args v h
  unfold L3 at h
  split at h <;> try (cases h; done)
  · split at h <;> cases h
    rename_i hc
    obtain ⟨h1, rfl, rfl⟩ := hc
    exact p92 h1
  · split at h <;> cases h
    rename_i hc
    obtain ⟨h1, rfl, rfl⟩ := hc
    exact p71 h1

def pur3 : PureF := altP pur2 L3
theorem pur3_ok : PureOk P pur3 := altP_ok pur2_ok L3_ok

theorem altP_left {p q : PureF} {g : FuncId} {args : List Value} {v : Value} (h : p g args = some v) : altP p q g args = some v := by
  unfold altP
  rw [h]

theorem pur3_92 {x : Nat} (h : x ≤ fInf) : pur3 92 [.float .f64 x, .float .f64 0, .float .f64 4607182418800017408] = some (.float .f64 (clampB x)) := by
  have : pur3 92 [.float .f64 x, .float .f64 0, .float .f64 4607182418800017408] = if x ≤ fInf ∧ 0 = 0 ∧ 4607182418800017408 = 4607182418800017408 then some (.float .f64 (clampB x)) else none := rfl
  rw [this, if_pos ⟨h, rfl, rfl⟩]
theorem pur3_71 {x : Nat} (h : x ≤ fInf) : pur3 71 [.float .f64 x, .float .f64 0, .float .f64 4607182418800017408] = some (.float .f64 (clampB x)) := by
  have : pur3 71 [.float .f64 x, .float .f64 0, .float .f64 4607182418800017408] = if x ≤ fInf ∧ 0 = 0 ∧ 4607182418800017408 = 4607182418800017408 then some (.float .f64 (clampB x)) else none := rfl
  rw [this, if_pos ⟨h, rfl, rfl⟩]
theorem pur2_93 {p a : Nat} (hp : p < 18446744073709551616) (ha : a < 18446744073709551616) : pur2 93 [.int .u64 (p : Int), .int .u64 (a : Int)] = some (.float .f64 (fRatio p a)) := by
  have : pur2 93 [.int .u64 (p : Int), .int .u64 (a : Int)] = if p < 18446744073709551616 ∧ a < 18446744073709551616 then some (.float .f64 (fRatio p a)) else none := rfl
  rw [this, if_pos ⟨hp, ha⟩]
theorem pur2_72 {p a : Nat} (hp : p < 18446744073709551616) (ha : a < 18446744073709551616) : pur2 72 [.int .u64 (p : Int), .int .u64 (a : Int)] = some (.float .f64 (fRatio p a)) := by
  have : pur2 72 [.int .u64 (p : Int), .int .u64 (a : Int)] = if p < 18446744073709551616 ∧ a < 18446744073709551616 then some (.float .f64 (fRatio p a)) else none := rfl
  rw [this, if_pos ⟨hp, ha⟩]
theorem pur3_93 {p a : Nat} (hp : p < 18446744073709551616) (ha : a < 18446744073709551616) : pur3 93 [.int .u64 (p : Int), .int .u64 (a : Int)] = some (.float .f64 (fRatio p a)) := altP_left (pur2_93 hp ha)
theorem pur3_72 {p a : Nat} (hp : p < 18446744073709551616) (ha : a < 18446744073709551616) : pur3 72 [.int .u64 (p : Int), .int .u64 (a : Int)] = some (.float .f64 (fRatio p a)) := altP_left (pur2_72 hp ha)

/-! health -/

structure NoteV where
  number : Nat
  bytes : Int
  erased : Int
  chunks : Int
  empty : Int
  found : Int
  good : Int
  whole : Bool

def i64ok (x : Int) : Prop := -9223372036854775808 ≤ x ∧ x < 9223372036854775808

structure NoteV.Ok (n : NoteV) : Prop where
  number : n.number < 18446744073709551616
  bytes : i64ok n.bytes
  erased : i64ok n.erased
  chunks : i64ok n.chunks
  empty : i64ok n.empty
  found : i64ok n.found
  good : i64ok n.good

def NoteV.cells (n : NoteV) : List Value :=
  [.int .u64 n.number, .int .i64 n.bytes, .int .i64 n.erased, .int .i64 n.chunks, .int .i64 n.empty, .int .i64 n.found, .int .i64 n.good, .bool n.whole]

def NoteV.val (n : NoteV) : Value := .agg n.cells.toArray

def leftN (bytes erased : Int) : Nat := (bytes.toNat - erased.toNat)

def ratioN (good bytes erased : Int) : Nat := clampB (fRatio good.toNat (leftN bytes erased))

def NoteV.health (n : NoteV) : Nat := if n.whole then fOne else ratioN n.good n.bytes n.erased

theorem ratioN_le {good bytes erased : Int} : ratioN good bytes erased ≤ fOne := Nat.min_le_right _ _

theorem p59 {g b e : Int} (hg : i64ok g) (hb : i64ok b) (he : i64ok e) : PureC P 59 [.int .i64 g, .int .i64 b, .int .i64 e] (.float .f64 (ratioN g b e)) := by
  refine PureC_of rfl fun H => ?_
  refine ACalls_K E (fnOf_ok P) mixed pur3_ok fn59 ok59 sx59 (by simp [nt59]) ?_
  simp only [nt59]
  unfold i64ok at hg hb he
  have e1 : ∀ x : Int, (if x > 0 then x else 0) = ((x.toNat : Nat) : Int) := by intro x; split <;> omega
  have e2 : IntKind.i64.wrap (((b.toNat : Nat) : Int) - ((e.toNat : Nat) : Int)) = ((b.toNat : Nat) : Int) - ((e.toNat : Nat) : Int) := wrap_i64 (by omega) (by omega)
  have e3 : (((b.toNat : Nat) : Int) - ((e.toNat : Nat) : Int)).toNat = leftN b e := by unfold leftN; omega
  have e4 : g.toNat % 18446744073709551616 = g.toNat := Nat.mod_eq_of_lt (by omega)
  have hl : leftN b e < 9223372036854775808 := by unfold leftN; omega
  have e5 : leftN b e % 18446744073709551616 = leftN b e := Nat.mod_eq_of_lt (by omega)
  have hp : g.toNat < 18446744073709551616 := by omega
  have ha : leftN b e < 18446744073709551616 := by omega
  have hr := fRatio_le hp ha
  simp (maxDischargeDepth := 40) only [Nat.reduceEqDiff, Nat.reduceLT, reduceCtorEq, Nat.reduceAdd, WK_ret, WK_seq, WK_region, WLK_nil, WLK_cons, app_fin, app_seq_normal, ne_eq, not_true_eq_false, List.cons_append, Nat.zero_add, Keep.refl, Option.some.injEq, exists_eq_left', aConvert, Nat.succ_ne_self, want, dstOk, opR, opE, opC, ev, evs, entry, argT, put_n, put_tmps, put_defers, selfRel, aNilNil, nilC_tmp, opCallR, ↓bind_match, ↓reduceIte, Bool.false_eq_true, decide_true, Bool.or_self, Bool.false_eq_true, and_true, List.cons_append, List.nil_append, ABody, aResults, aResult, tupleOf, code59, rs59, aBin_int, intBin, ty3, ty30, fn93, ex93, fn92, ex92, foldInt, maxInt, e1, e2, e3, wrap_u64, e4, e5, pur3_93 hp ha, pur3_92 hr, ratioN]

theorem selfRel_note (n : NoteV) : n.val.cells = n.cells.toArray := rfl

end Go.Am.Q

/- Health. -/
set_option linter.unusedSimpArgs false
set_option linter.unusedSectionVars false
set_option maxRecDepth 20000
namespace Go.Am.Q
open Go Go.Am Go.Proofs
variable [F : Fr]

def noteArgs (v : Value) : Option NoteV :=
  match v with
  | .agg c =>
    match c.toList with
    | [.int .u64 (.ofNat a), .int .i64 b, .int .i64 c, .int .i64 d, .int .i64 e, .int .i64 f, .int .i64 g, .bool w] => some ⟨a, b, c, d, e, f, g, w⟩
    | _ => none
  | _ => none

instance (n : NoteV) : Decidable n.Ok :=
  decidable_of_iff (n.number < 18446744073709551616 ∧ (-9223372036854775808 ≤ n.bytes ∧ n.bytes < 9223372036854775808) ∧ (-9223372036854775808 ≤ n.erased ∧ n.erased < 9223372036854775808) ∧
    (-9223372036854775808 ≤ n.chunks ∧ n.chunks < 9223372036854775808) ∧ (-9223372036854775808 ≤ n.empty ∧ n.empty < 9223372036854775808) ∧
    (-9223372036854775808 ≤ n.found ∧ n.found < 9223372036854775808) ∧ (-9223372036854775808 ≤ n.good ∧ n.good < 9223372036854775808))
    ⟨fun ⟨a, b, c, d, e, f, g⟩ => ⟨a, b, c, d, e, f, g⟩, fun ⟨a, b, c, d, e, f, g⟩ => ⟨a, b, c, d, e, f, g⟩⟩

theorem noteArgs_val {v : Value} {n : NoteV} (h : noteArgs v = some n) : v = n.val := by
  unfold noteArgs at h
  split at h <;> try (cases h; done)
  rename_i c
  split at h <;> try (cases h; done)
  rename_i hc
  cases h
  obtain ⟨l⟩ := c
  simp only at hc
  subst hc
  rfl

theorem noteArgs_of (n : NoteV) : noteArgs n.val = some n := rfl

def L4 : PureF := fun g args =>
  match g, args with
  | 59, [.int .i64 g, .int .i64 b, .int .i64 e] =>
    if (-9223372036854775808 ≤ g ∧ g < 9223372036854775808) ∧ (-9223372036854775808 ≤ b ∧ b < 9223372036854775808) ∧ (-9223372036854775808 ≤ e ∧ e < 9223372036854775808) then
      some (.float .f64 (ratioN g b e)) else none
  | _, _ => none

theorem L4_ok : PureOk P L4 := by
  intro g args v h
  unfold L4 at h
  split at h <;> try (cases h; done)
  split at h <;> cases h
  rename_i hc
  exact p59 hc.1 hc.2.1 hc.2.2

def pur4 : PureF := altP pur3 L4
theorem pur4_ok : PureOk P pur4 := altP_ok pur3_ok L4_ok

theorem pur4_59 {g b e : Int} (hg : i64ok g) (hb : i64ok b) (he : i64ok e) : pur4 59 [.int .i64 g, .int .i64 b, .int .i64 e] = some (.float .f64 (ratioN g b e)) := by
  have : pur4 59 [.int .i64 g, .int .i64 b, .int .i64 e] =
      if (-9223372036854775808 ≤ g ∧ g < 9223372036854775808) ∧ (-9223372036854775808 ≤ b ∧ b < 9223372036854775808) ∧ (-9223372036854775808 ≤ e ∧ e < 9223372036854775808) then
      some (.float .f64 (ratioN g b e)) else none := rfl
  rw [this, if_pos ⟨hg, hb, he⟩]

theorem pur4_72 {p a : Nat} (hp : p < 18446744073709551616) (ha : a < 18446744073709551616) : pur4 72 [.int .u64 (p : Int), .int .u64 (a : Int)] = some (.float .f64 (fRatio p a)) := altP_left (pur3_72 hp ha)
theorem pur4_71 {x : Nat} (h : x ≤ fInf) : pur4 71 [.float .f64 x, .float .f64 0, .float .f64 4607182418800017408] = some (.float .f64 (clampB x)) := altP_left (pur3_71 h)

theorem p27 {n : NoteV} (hn : n.Ok) : PureC P 27 [n.val] (.float .f64 n.health) := by
  refine PureC_of rfl fun H => ?_
  refine ACalls_K E (fnOf_ok P) mixed pur4_ok fn27 ok27 sx27 (by simp [nt27]) ?_
  simp only [nt27]
  have h := pur4_59 hn.good hn.bytes hn.erased
  cases hw : n.whole
  · simp (maxDischargeDepth := 40) only [Nat.reduceEqDiff, Nat.reduceLT, Nat.reduceLeDiff, Nat.reduceAdd, Nat.le_refl, Nat.reduceLeDiff,  WK_skip, WK_ret, WK_seq, WK_cond, WK_region, WLK_nil, WLK_cons, app_fin, app_seq_normal, List.take_succ_cons, List.drop_succ_cons, List.head?_cons, isAggD, List.all_cons, List.all_nil, oc_int, oc_bool, cells_agg, Bool.and_self, aBox, aNew, aFieldAddr, aLoad, List.cons_append, List.take_zero, List.drop_zero, List.length_cons, List.length_nil, Nat.zero_add, Keep.refl, Keep.push, Option.some.injEq, exists_eq_left', AH.load, AH.get_push, Nat.succ_ne_self, want, dstOk, opR, opE, opC, ev, evs, entry, argT, put_n, put_tmps, put_defers, selfRel, opCallR, ↓bind_match, ↓reduceIte, Bool.false_eq_true, decide_true, Bool.false_eq_true, and_true, List.toList_toArray, List.getElem?_toArray, List.getElem?_cons_zero, List.getElem?_cons_succ, List.cons_append, List.nil_append, ABody, aResults, aResult, tupleOf, code27, rs27, ty32, ty3, ty4, NoteV.val, NoteV.cells, fn59, ex59, h, NoteV.health, hw]
  · simp (maxDischargeDepth := 40) only [Nat.reduceEqDiff, Nat.reduceLT, Nat.reduceAdd, Nat.le_refl, WK_ret, WK_seq, WK_cond, WK_region, WLK_nil, WLK_cons, app_fin, app_seq_normal, app_seq_ret, List.take_succ_cons, List.drop_succ_cons, List.head?_cons, isAggD, List.all_cons, List.all_nil, oc_int, oc_bool, cells_agg, Bool.and_self, aBox, aNew, aFieldAddr, aLoad, List.take_zero, List.drop_zero, List.length_cons, List.length_nil, Nat.zero_add, Keep.refl, Keep.push, Option.some.injEq, exists_eq_left', AH.load, AH.get_push, Nat.succ_ne_self, want, dstOk, opR, opE, ev, entry, argT, put_n, put_tmps, put_defers, selfRel, ↓bind_match, ↓reduceIte, Bool.false_eq_true, decide_true, Bool.false_eq_true, and_true, List.toList_toArray, List.getElem?_toArray, List.getElem?_cons_zero, List.getElem?_cons_succ, ABody, aResults, aResult, tupleOf, code27, rs27, ty32, ty4, NoteV.val, NoteV.cells, NoteV.health, hw]

theorem p42 {n : NoteV} (hn : n.Ok) : PureC P 42 [n.val] (.float .f64 n.health) := by
  refine PureC_of rfl fun H => ?_
  refine ACalls_K E (fnOf_ok P) mixed pur4_ok fn42 ok42 sx42 (by simp [nt42]) ?_
  simp only [nt42]
  obtain ⟨_, hb, he, _, _, _, hg⟩ := hn
  unfold i64ok at hg hb he
  have e1 : ∀ x : Int, (if x > 0 then x else 0) = ((x.toNat : Nat) : Int) := by intro x; split <;> omega
  have e2 : IntKind.i64.wrap (((n.bytes.toNat : Nat) : Int) - ((n.erased.toNat : Nat) : Int)) = ((n.bytes.toNat : Nat) : Int) - ((n.erased.toNat : Nat) : Int) := wrap_i64 (by omega) (by omega)
  have e3 : (((n.bytes.toNat : Nat) : Int) - ((n.erased.toNat : Nat) : Int)).toNat = leftN n.bytes n.erased := by unfold leftN; omega
  have e4 : n.good.toNat % 18446744073709551616 = n.good.toNat := Nat.mod_eq_of_lt (by omega)
  have hl : leftN n.bytes n.erased < 9223372036854775808 := by unfold leftN; omega
  have e5 : leftN n.bytes n.erased % 18446744073709551616 = leftN n.bytes n.erased := Nat.mod_eq_of_lt (by omega)
  have hp : n.good.toNat < 18446744073709551616 := by omega
  have ha : leftN n.bytes n.erased < 18446744073709551616 := by omega
  have hr := fRatio_le hp ha
  cases hw : n.whole
  · simp (maxDischargeDepth := 40) only [Nat.reduceEqDiff, Nat.reduceLT, Nat.reduceLeDiff, Nat.reduceAdd, Nat.le_refl, Nat.reduceLeDiff,  WK_skip, WK_ret, WK_seq, WK_cond, WK_region, WLK_nil, WLK_cons, app_fin, app_seq_normal, ne_eq, not_true_eq_false, List.take_succ_cons, List.drop_succ_cons, List.head?_cons, isAggD, List.all_cons, List.all_nil, oc_int, oc_bool, cells_agg, Bool.and_self, aBox, aNew, aFieldAddr, aLoad, List.cons_append, List.take_zero, List.drop_zero, List.length_cons, List.length_nil, Nat.zero_add, Keep.refl, Keep.push, Option.some.injEq, exists_eq_left', aConvert, AH.load, AH.get_push, Nat.succ_ne_self, want, dstOk, opR, opE, opC, ev, evs, entry, argT, put_n, put_tmps, put_defers, selfRel, aNilNil, nilC_tmp, opCallR, ↓bind_match, ↓reduceIte, Bool.false_eq_true, decide_true, Bool.or_self, Bool.false_eq_true, and_true, List.toList_toArray, List.getElem?_toArray, List.getElem?_cons_zero, List.getElem?_cons_succ, List.cons_append, List.nil_append, ABody, aResults, aResult, tupleOf, code42, rs42, aBin_int, intBin, ty33, ty3, ty4, ty30, NoteV.val, NoteV.cells, fn72, ex72, fn71, ex71, foldInt, maxInt, e1, e2, e3, e4, e5, wrap_u64, pur4_72 hp ha, pur4_71 hr, NoteV.health, hw, ratioN]
  · simp (maxDischargeDepth := 40) only [Nat.reduceEqDiff, Nat.reduceLT, Nat.reduceAdd, Nat.le_refl, WK_ret, WK_seq, WK_cond, WK_region, WLK_nil, WLK_cons, app_fin, app_seq_normal, app_seq_ret, List.take_succ_cons, List.drop_succ_cons, List.head?_cons, isAggD, List.all_cons, List.all_nil, oc_int, oc_bool, cells_agg, Bool.and_self, aBox, aNew, aFieldAddr, aLoad, List.take_zero, List.drop_zero, List.length_cons, List.length_nil, Nat.zero_add, Keep.refl, Keep.push, Option.some.injEq, exists_eq_left', AH.load, AH.get_push, Nat.succ_ne_self, want, dstOk, opR, opE, ev, entry, argT, put_n, put_tmps, put_defers, selfRel, ↓bind_match, ↓reduceIte, Bool.false_eq_true, decide_true, Bool.false_eq_true, and_true, List.toList_toArray, List.getElem?_toArray, List.getElem?_cons_zero, List.getElem?_cons_succ, ABody, aResults, aResult, tupleOf, code42, rs42, ty33, ty4, NoteV.val, NoteV.cells, NoteV.health, hw]

def L5 : PureF := fun g args =>
  match g, args with
  | 27, [v] => (noteArgs v).bind fun n => if n.Ok then some (.float .f64 n.health) else none
  | 42, [v] => (noteArgs v).bind fun n => if n.Ok then some (.float .f64 n.health) else none
  | _, _ => none

theorem L5_ok : PureOk P L5 := by
  intro g args v h
  unfold L5 at h
  split at h <;> try (cases h; done)
  · rw [Option.bind_eq_some_iff] at h
    obtain ⟨n, hn, h⟩ := h
    split at h <;> cases h
    rw [noteArgs_val hn]
    exact p27 (by assumption)
  · rw [Option.bind_eq_some_iff] at h
    obtain ⟨n, hn, h⟩ := h
    split at h <;> cases h
    rw [noteArgs_val hn]
    exact p42 (by assumption)

def pur5 : PureF := altP pur4 L5
theorem pur5_ok : PureOk P pur5 := altP_ok pur4_ok L5_ok

theorem pur5_27 {n : NoteV} (hn : n.Ok) : pur5 27 [n.val] = some (.float .f64 n.health) := by
  have : pur5 27 [n.val] = if n.Ok then some (.float .f64 n.health) else none := rfl
  rw [this, if_pos hn]
theorem pur5_42 {n : NoteV} (hn : n.Ok) : pur5 42 [n.val] = some (.float .f64 n.health) := by
  have : pur5 42 [n.val] = if n.Ok then some (.float .f64 n.health) else none := rfl
  rw [this, if_pos hn]

end Go.Am.Q

/- The document's numbers of so many bytes, written and read. -/
set_option linter.unusedSimpArgs false
set_option linter.unusedSectionVars false
set_option maxRecDepth 20000
namespace Go.Am.Q
open Go Go.Am Go.Proofs
variable [F : Fr]

theorem bs23 (H : AH) (n : Int) : aBuildSlice E.ty H 23 1 #[(0, .int .u8 n)] = some (.slice (some ⟨H.next, 0, none⟩) 1 1, H.push (.cells [.int .u8 n] 5)) :=
  aBuildSlice_one ty23 rfl ty5 rfl rfl rfl

def leL : Nat → Nat → List UInt8
  | 0, _ => []
  | k + 1, x => UInt8.ofNat x :: leL k (x / 256)

theorem leL_length : ∀ k x, (leL k x).length = k := by
  intro k
  induction k with
  | zero => intro x; rfl
  | succ k ih => intro x; simp [leL, ih]

theorem leL_snoc : ∀ k x, leL (k + 1) x = leL k x ++ [UInt8.ofNat (x / 256 ^ k)] := by
  intro k
  induction k with
  | zero => intro x; simp [leL]
  | succ k ih =>
    intro x
    rw [leL, ih, leL]
    simp [Nat.div_div_eq_div_mul, Nat.pow_succ, Nat.mul_comm]

theorem p40 {x size : Nat} (hx : x < 18446744073709551616) (hs : size ≤ 1000) : PureC P 40 [.int .u64 x, .int .i64 size] (str (leL size x)) := by
  refine PureC_of (selfRel_str _ _) fun H0 => ?_
  refine ACalls_K E (fnOf_ok P) mixed pur5_ok fn40 ok40 sx40 (by simp [nt40]) ?_
  simp only [nt40]
  simp (maxDischargeDepth := 40) only [Nat.reduceEqDiff, Nat.reduceLT, WK_seq, WK_block, WK_loop, WK_region, WLK_nil, WLK_cons, app_seq_normal, Nat.zero_add, selfRel_str, str_def, Nat.succ_ne_self, want, dstOk, opR, ev, entry, argT, put_n, put_tmps, selfRel, ↓reduceIte, decide_true, true_and, code40]
  refine ⟨fun m a H => ∃ i, i + m = size ∧ a.n = 20 ∧ a.defers = [] ∧ a.tmps 0 = some (.int .u64 ((x / 256 ^ i : Nat) : Int)) ∧ a.tmps 5 = some (str (leL i x)) ∧
    a.tmps 6 = some (.int .i64 size) ∧ a.tmps 7 = some (.int .i64 i) ∧ Keep H0 H, size, ?_, ?_⟩
  · refine ⟨0, by omega, ?_⟩
    simp (maxDischargeDepth := 40) only [Nat.reduceEqDiff, reduceCtorEq, Keep.refl, Option.some.injEq, put_n, put_tmps, put_defers, ↓reduceIte, true_and, and_true, leL]
    exact ⟨by simp, rfl⟩
  · rintro m a H ⟨i, him, hn, hd, h0, h5, h6, h7, hK⟩
    have hl := leL_length i x
    have hadd : ∀ b : UInt8, aBin E.ty E.eqOk .add 9 (str (leL i x)) (str [b]) = some (str (leL i x ++ [b])) := fun b => str_add _ _ (by simp; omega)
    simp (maxDischargeDepth := 40) only [Nat.reduceEqDiff, Nat.reduceLT, reduceCtorEq, Int.reduceEq, Nat.le_refl, WK_skip, WK_exit, WK_ret, WK_seq, WK_cond, WK_block, WK_region, WLK_nil, WLK_cons, app_fin, app_seq_normal, app_seq_exit, app_block_normal, app_block_exit, app_inv_normal, app_inv_exit, ne_eq, not_true_eq_false, List.take_succ_cons, List.take_zero, List.drop_zero, List.length_cons, List.length_nil, Nat.zero_add, bytesOf_one, u8_wrap, Option.some.injEq, exists_eq_left', str_def, aConvert, AH.load, AH.get_push, Nat.succ_ne_self, want, dstOk, opR, opE, ev, evParts, put_n, put_tmps, put_defers, selfRel, aNilNil, nilC_tmp, nilC_int, ↓bind_match, ↓map_match, ↓reduceIte, Bool.false_eq_true, decide_true, Bool.or_self, Bool.false_eq_true, true_and, ABody, aResults, aResult, tupleOf, body40_0, rs40, aBin_int, intBin, ty5, ty9, ty23, ty30, bs23, hn, hd, h0, h5, h6, h7, hadd, tmod_256, tdiv_256, wrap_u64]
    split
    · rename_i h
      have hlt : i < size := by simpa using h
      refine ⟨m - 1, by omega, i + 1, by omega, ?_, ?_, ?_, hK.push _⟩
      · have e1 : x / 256 ^ i / 256 = x / 256 ^ (i + 1) := by rw [Nat.div_div_eq_div_mul, Nat.pow_succ]
        have e2 : x / 256 ^ (i + 1) ≤ x := Nat.div_le_self _ _
        rw [e1, Nat.mod_eq_of_lt (by omega)]
      · rw [leL_snoc]
        congr 3
        apply UInt8.toNat_inj.1
        simp
      · rw [wrap_i64 (by omega) (by omega)]
        simp
    · rename_i h
      have hle : ¬ i < size := by simpa using h
      have : i = size := by omega
      subst this
      exact ⟨rfl, hK⟩

/-! and read -/

def leB : List UInt8 → Nat
  | [] => 0
  | b :: l => b.toNat + 256 * leB l

theorem leB_lt : ∀ l : List UInt8, leB l < 256 ^ l.length := by
  intro l
  induction l with
  | nil => simp [leB]
  | cons b l ih =>
    have := b.toNat_lt
    simp only [leB, List.length_cons, Nat.pow_succ]
    omega

theorem p75 {l : List UInt8} (h : l.length ≤ 8) : PureC P 75 [str l] (.int .u64 (leB l)) := by
  refine PureC_of rfl fun H0 => ?_
  refine ACalls_K E (fnOf_ok P) mixed pur5_ok fn75 ok75 sx75 (by simp [nt75]) ?_
  simp only [nt75]
  have hlen : ∀ H, aLen E.ty H 9 (str l) = some (.int .i64 l.length) := fun H => aLen_str ty9 rfl l
  have hw : IntKind.i64.wrap ((l.length : Int) - 1) = (l.length : Int) - 1 := wrap_i64 (by omega) (by omega)
  simp (maxDischargeDepth := 40) only [Nat.reduceLT, reduceCtorEq, WK_seq, WK_block, WK_loop, WK_region, WLK_nil, WLK_cons, app_seq_normal, ne_eq, not_true_eq_false, want, dstOk, opR, ev, evs, entry, argT, put_n, put_tmps, selfRel, aNilNil, nilC_tmp, nilC_int, opCallR, ↓bind_match, ↓reduceIte, Bool.false_eq_true, decide_true, Bool.or_self, Bool.false_eq_true, true_and, code75, aBin_int, intBin, hlen, hw]
  refine ⟨fun m a H => m ≤ l.length ∧ a.n = 20 ∧ a.defers = [] ∧ a.tmps 0 = some (str l) ∧ a.tmps 3 = some (.int .u64 (leB (l.drop m))) ∧
    a.tmps 4 = some (.int .i64 ((m : Int) - 1)) ∧ Keep H0 H, l.length, ?_, ?_⟩
  · simp (maxDischargeDepth := 40) only [Nat.reduceEqDiff, reduceCtorEq, Nat.le_refl, Keep.refl, Option.some.injEq, put_n, put_tmps, put_defers, ↓reduceIte, true_and, and_true, List.drop_length, leB]
    exact rfl
  · rintro m a H ⟨hm, hn, hd, h0, h3, h4, hK⟩
    by_cases hz : m = 0
    · subst hz
      have d1 : decide (((0 : Nat) : Int) - 1 ≥ 0) = false := by decide
      simp (maxDischargeDepth := 40) only [Nat.reduceEqDiff, Nat.reduceLT, WK_exit, WK_ret, WK_seq, WK_cond, WK_region, WLK_nil, WLK_cons, app_fin, app_seq_normal, app_seq_exit, app_block_exit, app_inv_exit, ne_eq, not_true_eq_false, List.drop_zero, Option.some.injEq, exists_eq_left', want, dstOk, opR, ev, put_n, put_tmps, put_defers, selfRel, aNilNil, nilC_tmp, nilC_int, ↓bind_match, ↓reduceIte, Bool.false_eq_true, decide_true, Bool.or_self, Bool.false_eq_true, true_and, ABody, aResults, aResult, tupleOf, body75_0, rs75, aBin_int, intBin, hn, hd, h3, h4, d1]
      exact hK
    · have d1 : decide ((m : Int) - 1 ≥ 0) = true := by simp; omega
      have hc : (m : Int) - 1 = ((m - 1 : Nat) : Int) := by omega
      have hlt : m - 1 < l.length := by omega
      have hix := aIndex_str ty9 rfl (List.getElem?_eq_getElem hlt)
      have hdr : l.drop (m - 1) = l[m - 1] :: l.drop m := by
        rw [List.drop_eq_getElem_cons hlt]
        congr 2
        omega
      have hb := leB_lt (l.drop m)
      have hb2 : leB (l.drop m) < 256 ^ 7 := Nat.lt_of_lt_of_le hb (Nat.pow_le_pow_right (by decide) (by simp; omega))
      have hu := (l[m - 1]).toNat_lt
      have e1 : IntKind.u64.wrap ((leB (l.drop m) : Int) * 256) = ((leB (l.drop m) * 256 : Nat) : Int) := by
        have : (leB (l.drop m) : Int) * 256 = ((leB (l.drop m) * 256 : Nat) : Int) := by simp
        rw [this, wrap_u64, Nat.mod_eq_of_lt (by omega)]
      have e2 : IntKind.u64.wrap (((l[m - 1]).toNat : Nat) : Int) = (((l[m - 1]).toNat : Nat) : Int) := by
        rw [wrap_u64, Nat.mod_eq_of_lt (by omega)]
      have e3 : IntKind.u64.wrap (((leB (l.drop m) * 256 : Nat) : Int) + (((l[m - 1]).toNat : Nat) : Int)) = ((leB (l.drop (m - 1)) : Nat) : Int) := by
        rw [hdr, leB]
        have : (((leB (l.drop m) * 256 : Nat) : Int) + (((l[m - 1]).toNat : Nat) : Int)) = (((l[m - 1]).toNat + 256 * leB (l.drop m) : Nat) : Int) := by simp; omega
        rw [this, wrap_u64, Nat.mod_eq_of_lt (by omega)]
      have e4 : IntKind.i64.wrap (((m - 1 : Nat) : Int) - 1) = ((m - 1 : Nat) : Int) - 1 := wrap_i64 (by omega) (by omega)
      rw [hc] at h4 d1
      simp (maxDischargeDepth := 40) only [Nat.reduceEqDiff, Nat.reduceLT, reduceCtorEq, WK_skip, WK_seq, WK_cond, WK_block, WK_region, WLK_nil, WLK_cons, app_seq_normal, app_block_normal, app_inv_normal, ne_eq, not_true_eq_false, Option.some.injEq, aConvert, Nat.succ_ne_self, want, dstOk, opR, ev, put_n, put_tmps, put_defers, selfRel, aNilNil, nilC_tmp, nilC_int, ↓bind_match, ↓reduceIte, Bool.false_eq_true, decide_true, Bool.or_self, Bool.false_eq_true, true_and, body75_0, aBin_int, intBin, ty5, ty30, hn, hd, h0, h3, h4, d1, hix, e1, e2, e3, e4]
      exact ⟨m - 1, by omega, by omega, rfl, rfl, hK⟩

end Go.Am.Q

/- The document's reader. -/
set_option linter.unusedSimpArgs false
set_option linter.unusedSectionVars false
set_option maxRecDepth 20000
namespace Go.Am.Q
open Go Go.Am Go.Proofs
variable [F : Fr]

def L6 : PureF := fun g args =>
  match g, args with
  | 40, [.int .u64 (.ofNat x), .int .i64 (.ofNat n)] => if x < 18446744073709551616 ∧ n ≤ 1000 then some (str (leL n x)) else none
  | 75, [.string s] => if s.data.toList.length ≤ 8 then some (.int .u64 (leB s.data.toList)) else none
  | _, _ => none

theorem L6_ok : PureOk P L6 := by
  intro g args v h
  unfold L6 at h
  split at h <;> try (cases h; done)
  · split at h <;> cases h
    rename_i hc
    exact p40 hc.1 hc.2
  · split at h <;> cases h
    rename_i s hc
    have := p75 hc
    unfold str at this
    simpa using this

def pur6 : PureF := altP pur5 L6
theorem pur6_ok : PureOk P pur6 := altP_ok pur5_ok L6_ok

theorem pur6_75 {l : List UInt8} (h : l.length ≤ 8) : pur6 75 [str l] = some (.int .u64 (leB l)) := by
  have : pur6 75 [str l] = if l.length ≤ 8 then some (.int .u64 (leB l)) else none := rfl
  rw [this, if_pos h]

structure RdV where
  s : List UInt8
  pos : Nat
  e : Nat

def RdV.cells (r : RdV) : List Value := [str r.s, .int .i64 r.pos, .int .i64 r.e]
def RdV.val (r : RdV) : Value := .agg r.cells.toArray
def RdV.Ok (r : RdV) : Prop := r.pos + r.s.length ≤ 1000000 ∧ r.e ≤ 255

def takeR (r : RdV) (n : Nat) : RdV × List UInt8 :=
  if r.e ≠ 0 ∨ n = 0 then (r, []) else
  if r.s.length < n then (⟨r.s, r.pos, 2⟩, []) else (⟨r.s.drop n, r.pos + n, 0⟩, r.s.take n)

def failR (r : RdV) (e : Nat) : RdV := if r.e = 0 then ⟨r.s, r.pos, e⟩ else r

theorem nat_beq (a b : Nat) : ((a : Int) == (b : Int)) = (a == b) := by rw [Bool.eq_iff_iff]; simp only [beq_iff_eq]; omega
theorem nat_bne0 (a : Nat) : ((a : Int) != 0) = (a != 0) := by
  have := nat_beq a 0
  simp only [bne]
  rw [← this]; rfl
theorem nat_beq0 (a : Nat) : ((a : Int) == 0) = (a == 0) := nat_beq a 0

theorem p45 {r : RdV} {e : Nat} : PureC P 45 [r.val, .int .i64 e] (failR r e).val := by
  refine PureC_of rfl fun H0 => ?_
  refine ACalls_K E (fnOf_ok P) mixed pur6_ok fn45 ok45 sx45 (by simp [nt45]) ?_
  simp only [nt45]
  by_cases h : r.e = 0
  · have h' : (r.e == 0) = true := by simp [h]
    simp (maxDischargeDepth := 40) only [Nat.reduceEqDiff, Nat.reduceLT, Nat.reduceAdd, Nat.le_refl, WK_ret, WK_seq, WK_cond, WK_region, WLK_nil, WLK_cons, app_fin, app_seq_normal, ne_eq, not_true_eq_false, List.take_succ_cons, List.drop_succ_cons, List.head?_cons, isAggD, List.all_cons, List.all_nil, oc_int, oc_str, cells_int, cells_agg, Bool.and_self, aBox, aNew, aAlloc, aFieldAddr, aLoad, aStore, List.cons_append, List.take_zero, List.drop_zero, List.length_cons, List.length_nil, Nat.zero_add, Keep.refl, Keep.push, Keep.set, Nat.le_add_right, Option.some.injEq, exists_eq_left', str_def, AH.load, AH.store, splice, AH.get_push, AH.get_set, AH.next_push, Nat.left_eq_add, Nat.succ_ne_self, want, dstOk, opR, opE, ev, entry, argT, put_n, put_tmps, put_none, put_defers, selfRel, aNilNil, nilC_tmp, nilC_int, ↓bind_match, ↓map_match, ↓reduceIte, Bool.false_eq_true, decide_true, Bool.or_self, Bool.false_eq_true, and_true, List.toList_toArray, List.size_toArray, List.getElem?_toArray, List.getElem?_cons_zero, List.getElem?_cons_succ, List.cons_append, List.nil_append, ABody, aResults, aResult, tupleOf, code45, rs45, aBin_int, intBin, ty3, ty45, RdV.val, RdV.cells, failR, h', nat_beq0, if_pos h]
  · have h' : (r.e == 0) = false := by simp [h]
    simp (maxDischargeDepth := 40) only [Nat.reduceEqDiff, Nat.reduceLT, Nat.reduceAdd, Nat.le_refl, WK_skip, WK_ret, WK_seq, WK_cond, WK_region, WLK_nil, WLK_cons, app_fin, app_seq_normal, ne_eq, not_true_eq_false, List.take_succ_cons, List.drop_succ_cons, List.head?_cons, isAggD, List.all_cons, List.all_nil, oc_int, oc_str, cells_agg, Bool.and_self, aBox, aNew, aAlloc, aFieldAddr, aLoad, aStore, List.cons_append, List.take_zero, List.drop_zero, List.length_cons, List.length_nil, Nat.zero_add, Keep.refl, Keep.push, Keep.set, Nat.le_add_right, Option.some.injEq, exists_eq_left', str_def, AH.load, AH.store, splice, AH.get_push, AH.get_set, AH.next_push, Nat.left_eq_add, Nat.succ_ne_self, want, dstOk, opR, opE, ev, entry, argT, put_n, put_tmps, put_none, put_defers, selfRel, aNilNil, nilC_tmp, nilC_int, ↓bind_match, ↓map_match, ↓reduceIte, Bool.false_eq_true, decide_true, Bool.or_self, Bool.false_eq_true, and_true, List.toList_toArray, List.size_toArray, List.getElem?_toArray, List.getElem?_cons_zero, List.getElem?_cons_succ, List.cons_append, List.nil_append, ABody, aResults, aResult, tupleOf, code45, rs45, aBin_int, intBin, ty3, ty45, RdV.val, RdV.cells, failR, h', nat_beq0, if_neg h]

theorem aLen9 (H : AH) (l : List UInt8) : aLen E.ty H 9 (str l) = some (.int .i64 l.length) := aLen_str ty9 rfl l

theorem p74 {r : RdV} {n : Nat} (hr : r.Ok) (hn : n ≤ 1000) : PureC P 74 [r.val, .int .i64 n] (.tuple #[(takeR r n).1.val, str (takeR r n).2]) := by
  refine PureC_of rfl fun H0 => ?_
  refine ACalls_K E (fnOf_ok P) mixed pur6_ok fn74 ok74 sx74 (by simp [nt74]) ?_
  simp only [nt74]
  obtain ⟨hr1, hr2⟩ := hr
  by_cases he : r.e = 0
  · have he' : (r.e != 0) = false := by simp [he]
    by_cases hz : n = 0
    · have d1 : decide ((n : Int) ≤ 0) = true := by simp; omega
      have ht : takeR r n = (r, []) := by simp [takeR, hz]
      simp (maxDischargeDepth := 40) only [Nat.reduceEqDiff, Nat.reduceLT, Nat.reduceAdd, Nat.le_refl, WK_ret, WK_seq, WK_cond, WK_region, WLK_nil, WLK_cons, app_fin, app_seq_normal, app_seq_ret, ne_eq, not_true_eq_false, List.take_succ_cons, List.drop_succ_cons, List.head?_cons, isAggD, List.all_cons, List.all_nil, oc_int, oc_str, cells_agg, Bool.and_self, aBox, aNew, aAlloc, aFieldAddr, aLoad, aStore, List.cons_append, List.take_zero, List.drop_zero, List.length_cons, List.length_nil, Nat.zero_add, selfRel_str, Keep.refl, Keep.push, Keep.set, Nat.le_add_right, Option.some.injEq, exists_eq_left', str_def, AH.load, AH.store, splice, AH.get_push, AH.get_set, AH.next_push, Nat.left_eq_add, Nat.succ_ne_self, want, dstOk, opR, opE, ev, entry, argT, put_n, put_tmps, put_none, put_defers, selfRel, aNilNil, nilC_tmp, nilC_int, ↓bind_match, ↓map_match, ↓reduceIte, Bool.false_eq_true, decide_true, Bool.or_self, beq_self_eq_true, Bool.false_eq_true, and_true, List.toList_toArray, List.size_toArray, List.getElem?_toArray, List.getElem?_cons_zero, List.getElem?_cons_succ, List.cons_append, List.nil_append, ABody, aResults, aResult, tupleOf, code74, rs74, aBin_int, intBin, ty3, ty45, RdV.val, RdV.cells, ht, nat_bne0, he', d1]
    · have d1 : decide ((n : Int) ≤ 0) = false := by simp; omega
      by_cases hl : r.s.length < n
      · have d2 : decide ((n : Int) > (r.s.length : Int)) = true := by simp; omega
        have ht : takeR r n = (⟨r.s, r.pos, 2⟩, []) := by simp [takeR, hz, he, hl]
        simp (maxDischargeDepth := 40) only [Nat.reduceEqDiff, Nat.reduceLT, Nat.reduceLeDiff, Nat.reduceAdd, Nat.le_refl, Nat.reduceLeDiff,  WK_skip, WK_ret, WK_seq, WK_cond, WK_region, WLK_nil, WLK_cons, app_fin, app_seq_normal, app_seq_ret, ne_eq, not_true_eq_false, List.take_succ_cons, List.drop_succ_cons, List.head?_cons, isAggD, List.all_cons, List.all_nil, oc_int, oc_str, cells_int, cells_agg, Bool.and_self, aBox, aNew, aAlloc, aFieldAddr, aLoad, aStore, List.cons_append, List.take_zero, List.drop_zero, List.length_cons, List.length_nil, Nat.zero_add, selfRel_str, Keep.refl, Keep.push, Keep.set, Nat.le_add_right, Option.some.injEq, exists_eq_left', str_def, AH.load, AH.store, splice, AH.get_push, AH.get_set, AH.next_push, Nat.left_eq_add, Nat.succ_ne_self, want, dstOk, opR, opE, ev, evs, entry, argT, put_n, put_tmps, put_none, put_defers, selfRel, aNilNil, nilC_tmp, nilC_int, opCallR, ↓bind_match, ↓map_match, ↓reduceIte, Bool.false_eq_true, decide_true, Bool.or_self, beq_self_eq_true, Bool.false_eq_true, true_and, and_true, List.toList_toArray, List.size_toArray, List.getElem?_toArray, List.getElem?_cons_zero, List.getElem?_cons_succ, List.cons_append, List.nil_append, ABody, aResults, aResult, tupleOf, code74, rs74, aBin_int, intBin, ty3, ty45, ty9, RdV.val, RdV.cells, ht, nat_bne0, he', d1, d2, aLen9]
        rfl
      · have d2 : decide ((n : Int) > (r.s.length : Int)) = false := by simp; omega
        have ht : takeR r n = (⟨r.s.drop n, r.pos + n, 0⟩, r.s.take n) := by simp [takeR, hz, he, hl]
        have hlo : ∀ H, aSlice E.ty H 9 (str r.s) (some (.int .i64 (n : Int))) none none = some (str (r.s.drop n)) := fun H => aSlice_str_lo ty9 rfl (by omega)
        have hhi : ∀ H, aSlice E.ty H 9 (str r.s) none (some (.int .i64 (n : Int))) none = some (str (r.s.take n)) := fun H => aSlice_str_hi ty9 rfl (by omega)
        have hw : IntKind.i64.wrap ((r.pos : Int) + (n : Int)) = ((r.pos + n : Nat) : Int) := by rw [wrap_i64 (by omega) (by omega)]; simp
        have hb : aBuild E.ty 45 #[(0, str (r.s.drop n)), (1, .int .i64 ((r.pos + n : Nat) : Int))] = some (.agg #[str (r.s.drop n), .int .i64 ((r.pos + n : Nat) : Int), .int .i64 0]) := by
          rfl
        simp (maxDischargeDepth := 40) only [Nat.reduceEqDiff, Nat.reduceLT, Nat.reduceLeDiff, Nat.reduceAdd, Nat.le_refl, Nat.reduceLeDiff,  WK_skip, WK_ret, WK_seq, WK_cond, WK_region, WK_draw, WLK_nil, WLK_cons, WPK_cons, app_fin, app_seq_normal, WChks, WChk, evNewA, opRP, ne_eq, not_true_eq_false, List.take_succ_cons, List.drop_succ_cons, List.head?_cons, isAggD, List.all_cons, List.all_nil, oc_int, oc_str, cells_agg, Bool.and_self, aBox, aNew, aAlloc, aFieldAddr, aLoad, aStore, List.cons_append, List.take_zero, List.drop_zero, List.length_cons, List.length_nil, Nat.zero_add, selfRel_str, Keep.refl, Keep.push, Keep.set, Nat.le_add_right, Option.some.injEq, exists_eq_left', str_def, AH.load, AH.store, splice, AH.get_push, AH.get_set, AH.next_push, Nat.left_eq_add, Nat.succ_ne_self, want, dstOk, opR, opE, ev, evs, evParts, evO, entry, argT, put_n, put_tmps, put_none, put_defers, selfRel, aNilNil, nilC_tmp, nilC_int, opCallR, ↓bind_match, ↓map_match, ↓reduceIte, Bool.false_eq_true, decide_true, Bool.or_self, beq_self_eq_true, Bool.false_eq_true, true_and, and_true, List.toList_toArray, List.size_toArray, List.getElem?_toArray, List.getElem?_cons_zero, List.getElem?_cons_succ, List.cons_append, List.nil_append, ABody, aResults, aResult, tupleOf, code74, rs74, pl74_6, aBin_int, intBin, ty3, ty45, ty9, RdV.val, RdV.cells, ht, nat_bne0, he', d1, d2, aLen9, hlo, hhi, hw, hb]
        rfl
  · have he' : (r.e != 0) = true := by simp [he]
    have ht : takeR r n = (r, []) := by simp [takeR, he]
    simp (maxDischargeDepth := 40) only [Nat.reduceEqDiff, Nat.reduceLT, Nat.reduceAdd, Nat.le_refl, WK_ret, WK_seq, WK_cond, WK_region, WLK_nil, WLK_cons, app_fin, app_seq_normal, app_seq_ret, ne_eq, not_true_eq_false, List.take_succ_cons, List.drop_succ_cons, List.head?_cons, isAggD, List.all_cons, List.all_nil, oc_int, oc_str, cells_agg, Bool.and_self, aBox, aNew, aAlloc, aFieldAddr, aLoad, aStore, List.cons_append, List.take_zero, List.drop_zero, List.length_cons, List.length_nil, Nat.zero_add, selfRel_str, Keep.refl, Keep.push, Keep.set, Nat.le_add_right, Option.some.injEq, exists_eq_left', str_def, AH.load, AH.store, splice, AH.get_push, AH.get_set, AH.next_push, Nat.left_eq_add, Nat.succ_ne_self, want, dstOk, opR, opE, ev, entry, argT, put_n, put_tmps, put_none, put_defers, selfRel, aNilNil, nilC_tmp, nilC_int, ↓bind_match, ↓map_match, ↓reduceIte, Bool.false_eq_true, decide_true, Bool.or_self, beq_false, Bool.not_true, Bool.false_eq_true, and_true, List.toList_toArray, List.size_toArray, List.getElem?_toArray, List.getElem?_cons_zero, List.getElem?_cons_succ, List.cons_append, List.nil_append, ABody, aResults, aResult, tupleOf, code74, rs74, aBin_int, intBin, ty3, ty45, RdV.val, RdV.cells, ht, nat_bne0, he']

end Go.Am.Q

/- The document's reader: numbers. -/
set_option linter.unusedSimpArgs false
set_option linter.unusedSectionVars false
set_option maxRecDepth 20000
namespace Go.Am.Q
open Go Go.Am Go.Proofs
variable [F : Fr]

def rdArgs (v : Value) : Option RdV :=
  match v with
  | .agg c =>
    match c.toList with
    | [.string s, .int .i64 (.ofNat p), .int .i64 (.ofNat e)] => some ⟨s.data.toList, p, e⟩
    | _ => none
  | _ => none

theorem rdArgs_val {v : Value} {r : RdV} (h : rdArgs v = some r) : v = r.val := by
  unfold rdArgs at h
  split at h <;> try (cases h; done)
  rename_i c
  split at h <;> try (cases h; done)
  rename_i hc
  cases h
  obtain ⟨l⟩ := c
  simp only at hc
  subst hc
  rfl

theorem rdArgs_of (r : RdV) : rdArgs r.val = some r := rfl

instance (r : RdV) : Decidable r.Ok := inferInstanceAs (Decidable (_ ∧ _))

def L7 : PureF := fun g args =>
  match g, args with
  | 74, [v, .int .i64 (.ofNat n)] => (rdArgs v).bind fun r => if r.Ok ∧ n ≤ 1000 then some (.tuple #[(takeR r n).1.val, str (takeR r n).2]) else none
  | 45, [v, .int .i64 (.ofNat e)] => (rdArgs v).map fun r => (failR r e).val
  | _, _ => none

theorem L7_ok : PureOk P L7 := by
  intro g args v h
  unfold L7 at h
  split at h <;> try (cases h; done)
  · rw [Option.bind_eq_some_iff] at h
    obtain ⟨r, hr, h⟩ := h
    split at h <;> cases h
    rename_i hc
    rw [rdArgs_val hr]
    exact p74 hc.1 hc.2
  · rw [Option.map_eq_some_iff] at h
    obtain ⟨r, hr, rfl⟩ := h
    rw [rdArgs_val hr]
    exact p45

def pur7 : PureF := altP pur6 L7
theorem pur7_ok : PureOk P pur7 := altP_ok pur6_ok L7_ok

theorem pur7_74 {r : RdV} {n : Nat} (hr : r.Ok) (hn : n ≤ 1000) : pur7 74 [r.val, .int .i64 (n : Int)] = some (.tuple #[(takeR r n).1.val, str (takeR r n).2]) := by
  have : pur7 74 [r.val, .int .i64 (n : Int)] = if r.Ok ∧ n ≤ 1000 then some (.tuple #[(takeR r n).1.val, str (takeR r n).2]) else none := rfl
  rw [this, if_pos ⟨hr, hn⟩]
theorem pur7_45 {r : RdV} {e : Nat} : pur7 45 [r.val, .int .i64 (e : Int)] = some (failR r e).val := rfl
theorem pur7_75 {l : List UInt8} (h : l.length ≤ 8) : pur7 75 [str l] = some (.int .u64 (leB l)) := altP_left (pur6_75 h)
theorem pur7_41 (b : Nat) : pur7 41 [.float .f64 b] = some (.int .u64 (textB b)) := rfl

theorem takeR_len (r : RdV) (n : Nat) : (takeR r n).2.length ≤ n := by
  unfold takeR
  split
  · simp
  · split <;> simp
    omega

theorem takeR_ok {r : RdV} (h : r.Ok) (n : Nat) : (takeR r n).1.Ok := by
  obtain ⟨h1, h2⟩ := h
  unfold takeR
  split
  · exact ⟨h1, h2⟩
  · split
    · exact ⟨h1, by simp⟩
    · refine ⟨?_, by simp⟩
      simp only [List.length_drop]
      omega

def getR (r : RdV) (n : Nat) : RdV × Nat := ((takeR r n).1, leB (takeR r n).2)

/-- The cells of what a reader is, named. -/
theorem RdV.val_eq (r : RdV) : r.val = .agg #[str r.s, .int .i64 r.pos, .int .i64 r.e] := rfl

theorem p44 {r : RdV} {n : Nat} (hr : r.Ok) (hn : n ≤ 8) : PureC P 44 [r.val, .int .i64 n] (.tuple #[(getR r n).1.val, .int .u64 (getR r n).2]) := by
  refine PureC_of rfl fun H0 => ?_
  refine ACalls_K E (fnOf_ok P) mixed pur7_ok fn44 ok44 sx44 (by simp [nt44]) ?_
  simp only [nt44]
  have h1 := pur7_74 hr (show n ≤ 1000 by omega)
  have h2 := pur7_75 (l := (takeR r n).2) (Nat.le_trans (takeR_len r n) hn)
  simp only [RdV.val_eq] at h1
  simp (maxDischargeDepth := 40) only [Nat.reduceEqDiff, Nat.reduceLT, Nat.reduceAdd, Nat.le_refl, WK_ret, WK_seq, WK_region, WK_draw, WLK_nil, WLK_cons, WPK_cons, app_fin, app_seq_normal, WChks, WChk, evNewA, opRP, List.take_succ_cons, List.drop_succ_cons, isAggD, List.all_cons, List.all_nil, oc_int, oc_str, cells_agg, Bool.and_self, aBox, aNew, aAlloc, aLoad, aStore, List.cons_append, List.take_zero, List.drop_zero, List.length_cons, List.length_nil, Nat.zero_add, Keep.refl, Keep.push, Keep.set, Nat.le_add_right, Nat.le_add_right_of_le, Option.some.injEq, exists_eq_left', str_def, AH.load, AH.store, splice, AH.get_push, AH.get_set, AH.next_push, Nat.left_eq_add, Nat.succ_ne_self, want, dstOk, opR, opE, opC, ev, evs, entry, argT, put_n, put_tmps, put_none, put_defers, selfRel, opCallR, ↓bind_match, ↓map_match, ↓reduceIte, decide_true, and_true, List.toList_toArray, List.size_toArray, List.getElem?_toArray, List.getElem?_cons_zero, List.getElem?_cons_succ, List.cons_append, List.nil_append, ABody, aResults, aResult, tupleOf, code44, rs44, pl44_2, ty45, RdV.val_eq, fn74, ex74, fn75, ex75, h1, h2, getR, aExtract]

end Go.Am.Q

/- The document's reader: numbers of as few bytes as can be. -/
set_option linter.unusedSimpArgs false
set_option linter.unusedSectionVars false
set_option maxRecDepth 20000
namespace Go.Am.Q
open Go Go.Am Go.Proofs
variable [F : Fr]

def L8 : PureF := fun g args =>
  match g, args with
  | 44, [v, .int .i64 (.ofNat n)] => (rdArgs v).bind fun r => if r.Ok ∧ n ≤ 8 then some (.tuple #[(getR r n).1.val, .int .u64 (getR r n).2]) else none
  | _, _ => none

theorem L8_ok : PureOk P L8 := by
  intro g args v h
  unfold L8 at h
  split at h <;> try (cases h; done)
  rw [Option.bind_eq_some_iff] at h
  obtain ⟨r, hr, h⟩ := h
  split at h <;> cases h
  rename_i hc
  rw [rdArgs_val hr]
  exact p44 hc.1 hc.2

def pur8 : PureF := altP pur7 L8
theorem pur8_ok : PureOk P pur8 := altP_ok pur7_ok L8_ok

theorem pur8_44 {r : RdV} {n : Nat} (hr : r.Ok) (hn : n ≤ 8) : pur8 44 [r.val, .int .i64 (n : Int)] = some (.tuple #[(getR r n).1.val, .int .u64 (getR r n).2]) := by
  have : pur8 44 [r.val, .int .i64 (n : Int)] = if r.Ok ∧ n ≤ 8 then some (.tuple #[(getR r n).1.val, .int .u64 (getR r n).2]) else none := rfl
  rw [this, if_pos ⟨hr, hn⟩]
theorem pur8_45 {r : RdV} {e : Nat} : pur8 45 [r.val, .int .i64 (e : Int)] = some (failR r e).val := rfl
theorem pur8_41 (b : Nat) : pur8 41 [.float .f64 b] = some (.int .u64 (textB b)) := rfl

theorem getR_ok {r : RdV} (h : r.Ok) (n : Nat) : (getR r n).1.Ok := takeR_ok h n

theorem getR1_lt (r : RdV) : (getR r 1).2 < 256 := by
  have h1 := takeR_len r 1
  have h2 := leB_lt (takeR r 1).2
  have h3 : 256 ^ (takeR r 1).2.length ≤ 256 ^ 1 := Nat.pow_le_pow_right (by decide) h1
  unfold getR
  omega

theorem getR8_lt (r : RdV) : (getR r 8).2 < 18446744073709551616 := by
  have h1 := takeR_len r 8
  have h2 := leB_lt (takeR r 8).2
  have h3 : 256 ^ (takeR r 8).2.length ≤ 256 ^ 8 := Nat.pow_le_pow_right (by decide) h1
  unfold getR
  omega

/-! a number with a point -/

def fltR (r : RdV) : RdV × Nat :=
  if (getR r 8).1.e = 0 then (if textB (getR r 8).2 = (getR r 8).2 then getR r 8 else (failR (getR r 8).1 4, 0)) else ((getR r 8).1, 0)

theorem p46 {r : RdV} (hr : r.Ok) : PureC P 46 [r.val] (.tuple #[(fltR r).1.val, .float .f64 (fltR r).2]) := by
  refine PureC_of rfl fun H0 => ?_
  refine ACalls_K E (fnOf_ok P) mixed pur8_ok fn46 ok46 sx46 (by simp [nt46]) ?_
  simp only [nt46]
  have h1 := pur8_44 hr (show 8 ≤ 8 by omega)
  have h8 := getR8_lt r
  generalize hg : getR r 8 = g at h1 h8
  obtain ⟨q, n⟩ := g
  have h2 := pur8_45 (r := q) (e := 4)
  simp only [RdV.val_eq] at h1 h2
  have h3 : (((8 : Nat) : Int)) = 8 := rfl
  have h4 : (((4 : Nat) : Int)) = 4 := rfl
  rw [h3] at h1
  rw [h4] at h2
  have ht : (n : Int).toNat = n := by simp
  have hne : ((textB n : Int) != (n : Int)) = (textB n != n) := by simp only [bne, nat_beq]
  by_cases he : q.e = 0
  · have he' : (q.e == 0) = true := by simp [he]
    have hen : (q.e != 0) = false := by simp [he]
    by_cases hx : textB n = n
    · have hx' : (textB n != n) = false := by simp [hx]
      have hf : fltR r = (q, n) := by simp [fltR, hg, he, hx]
      simp (maxDischargeDepth := 40) only [Nat.reduceEqDiff, Nat.reduceLT, Nat.reduceAdd, Nat.le_refl, WK_skip, WK_ret, WK_seq, WK_cond, WK_region, WLK_nil, WLK_cons, app_fin, app_seq_normal, ne_eq, not_true_eq_false, List.take_succ_cons, List.drop_succ_cons, List.head?_cons, isAggD, List.all_cons, List.all_nil, oc_int, oc_str, cells_agg, Bool.and_self, aBox, aNew, aAlloc, aFieldAddr, aLoad, aStore, List.cons_append, List.take_zero, List.drop_zero, List.length_cons, List.length_nil, Nat.zero_add, Keep.refl, Keep.push, Keep.set, Nat.le_add_right, Option.some.injEq, exists_eq_left', str_def, AH.load, AH.store, splice, AH.get_push, AH.get_set, AH.next_push, Nat.left_eq_add, Nat.succ_ne_self, want, dstOk, opR, opE, opC, ev, evs, entry, argT, put_n, put_tmps, put_none, put_defers, selfRel, aNilNil, nilC_tmp, nilC_int, opCallR, ↓bind_match, ↓map_match, ↓reduceIte, Bool.false_eq_true, decide_true, Bool.or_self, beq_self_eq_true, Bool.false_eq_true, and_true, List.toList_toArray, List.size_toArray, List.getElem?_toArray, List.getElem?_cons_zero, List.getElem?_cons_succ, List.cons_append, List.nil_append, ABody, aResults, aResult, tupleOf, code46, rs46, aBin_int, intBin, ty3, ty45, RdV.val_eq, fn44, ex44, ext68, fn41, ex41, h1, aExtract, hf, nat_beq0, nat_bne0, he', hen, ht, pur8_41, hne, hx']
    · have hx' : (textB n != n) = true := by simp [hx]
      have hf : fltR r = (failR q 4, 0) := by simp [fltR, hg, he, hx]
      simp (maxDischargeDepth := 40) only [Nat.reduceEqDiff, Nat.reduceLT, Nat.reduceAdd, Nat.le_refl, WK_ret, WK_seq, WK_cond, WK_region, WLK_nil, WLK_cons, app_fin, app_seq_normal, app_seq_ret, ne_eq, not_true_eq_false, List.take_succ_cons, List.drop_succ_cons, List.head?_cons, isAggD, List.all_cons, List.all_nil, oc_int, oc_str, cells_agg, Bool.and_self, aBox, aNew, aAlloc, aFieldAddr, aLoad, aStore, List.cons_append, List.take_zero, List.drop_zero, List.length_cons, List.length_nil, Nat.zero_add, Keep.refl, Keep.push, Keep.set, Nat.le_add_right, Option.some.injEq, exists_eq_left', str_def, AH.load, AH.store, splice, AH.get_push, AH.get_set, AH.next_push, Nat.left_eq_add, Nat.succ_ne_self, want, dstOk, opR, opE, opC, ev, evs, entry, argT, put_n, put_tmps, put_none, put_defers, selfRel, aNilNil, nilC_tmp, nilC_int, opCallR, ↓bind_match, ↓map_match, ↓reduceIte, Bool.false_eq_true, decide_true, Bool.or_self, beq_self_eq_true, Bool.false_eq_true, and_true, List.toList_toArray, List.size_toArray, List.getElem?_toArray, List.getElem?_cons_zero, List.getElem?_cons_succ, List.cons_append, List.nil_append, ABody, aResults, aResult, tupleOf, code46, rs46, aBin_int, intBin, ty3, ty45, RdV.val_eq, fn44, ex44, ext68, fn41, ex41, fn45, ex45, h1, h2, aExtract, hf, nat_beq0, he', ht, pur8_41, hne, hx']
  · have he' : (q.e == 0) = false := by simp [he]
    have hen : (q.e != 0) = true := by simp [he]
    have hf : fltR r = (q, 0) := by simp [fltR, hg, he]
    simp (maxDischargeDepth := 40) only [Nat.reduceEqDiff, Nat.reduceLT, Nat.reduceAdd, Nat.le_refl, WK_skip, WK_ret, WK_seq, WK_cond, WK_region, WLK_nil, WLK_cons, app_fin, app_seq_normal, app_seq_ret, ne_eq, not_true_eq_false, List.take_succ_cons, List.drop_succ_cons, List.head?_cons, isAggD, List.all_cons, List.all_nil, oc_int, oc_str, cells_agg, Bool.and_self, aBox, aNew, aAlloc, aFieldAddr, aLoad, aStore, List.cons_append, List.take_zero, List.drop_zero, List.length_cons, List.length_nil, Nat.zero_add, Keep.refl, Keep.push, Keep.set, Nat.le_add_right, Option.some.injEq, exists_eq_left', str_def, AH.load, AH.store, splice, AH.get_push, AH.get_set, AH.next_push, Nat.left_eq_add, Nat.succ_ne_self, want, dstOk, opR, opE, opC, ev, evs, entry, argT, put_n, put_tmps, put_none, put_defers, selfRel, aNilNil, nilC_tmp, nilC_int, opCallR, ↓bind_match, ↓map_match, ↓reduceIte, Bool.false_eq_true, decide_true, Bool.or_self, beq_true, Bool.false_eq_true, and_true, List.toList_toArray, List.size_toArray, List.getElem?_toArray, List.getElem?_cons_zero, List.getElem?_cons_succ, List.cons_append, List.nil_append, ABody, aResults, aResult, tupleOf, code46, rs46, aBin_int, intBin, ty3, ty45, RdV.val_eq, fn44, ex44, ext68, h1, aExtract, hf, nat_beq0, nat_bne0, he', hen, ht]

/-! a number of as few bytes as can be -/

def varL : Nat → Nat → Nat → RdV → RdV × Nat
  | 0, _, x, r => (r, x)
  | k + 1, i, x, r =>
    if (getR r 1).1.e ≠ 0 then ((getR r 1).1, 0) else
    if i = 9 ∧ 1 < (getR r 1).2 then (failR (getR r 1).1 3, 0) else
    if 128 ≤ (getR r 1).2 then varL k (i + 1) (x + (getR r 1).2 % 128 * 128 ^ i) (getR r 1).1 else
    if (getR r 1).2 = 0 ∧ 0 < i then (failR (getR r 1).1 4, 0) else ((getR r 1).1, x + (getR r 1).2 % 128 * 128 ^ i)

def varR (r : RdV) : RdV × Nat := varL 10 0 0 r

theorem p73 {r0 : RdV} (hr0 : r0.Ok) : PureC P 73 [r0.val] (.tuple #[(varR r0).1.val, .int .u64 (varR r0).2]) := by
  refine PureC_of rfl fun H0 => ?_
  refine ACalls_K E (fnOf_ok P) mixed pur8_ok fn73 ok73 sx73 (by simp [nt73]) ?_
  simp only [nt73]
  generalize hw : varR r0 = w
  simp (maxDischargeDepth := 40) only [Nat.reduceLT, WK_seq, WK_block, WK_loop, WK_region, WLK_nil, WLK_cons, app_seq_normal, List.all_cons, List.all_nil, oc_int, oc_str, cells_agg, Bool.and_self, aBox, aNew, aAlloc, str_def, AH.next_push, want, dstOk, opR, opE, ev, entry, argT, put_n, selfRel, ↓bind_match, ↓reduceIte, decide_true, true_and, List.toList_toArray, code73, ty45, RdV.val_eq]
  refine ⟨fun m a H => ∃ (i x : Nat) (r : RdV) (c0 c1 c2 : Value), i + m = 10 ∧ r.Ok ∧ x < 128 ^ i ∧ varL m i x r = w ∧ a.n = 53 ∧ a.defers = [] ∧
    a.tmps 1 = some (.pointer (some ⟨H0.next, 0, none⟩)) ∧ a.tmps 2 = some (.pointer (some ⟨H0.next + 1, 0, none⟩)) ∧ a.tmps 4 = some (.int .u64 x) ∧
    a.tmps 5 = some (.int .u64 ((128 ^ i % 18446744073709551616 : Nat) : Int)) ∧ a.tmps 9 = some (.int .i64 i) ∧
    H.get H0.next = some (.cells [str r.s, .int .i64 r.pos, .int .i64 r.e] 45) ∧ H.get (H0.next + 1) = some (.cells [c0, c1, c2] 45) ∧ H0.next + 2 ≤ H.next ∧ Keep H0 H, 10, ?_, ?_⟩
  · refine ⟨0, 0, r0, str [], .int .i64 0, .int .i64 0, by omega, hr0, by decide, hw, ?_⟩
    simp (maxDischargeDepth := 40) only [Nat.reduceEqDiff, Nat.le_refl, Keep.refl, Keep.push, Option.some.injEq, AH.get_push, AH.next_push, Nat.left_eq_add, Nat.succ_ne_self, put_n, put_tmps, put_defers, ↓reduceIte, true_and, and_true]
    exact ⟨rfl, rfl, rfl⟩
  · rintro m a H ⟨i, x, r, c0, c1, c2, him, hr, hx, hv, hn, hd, h1, h2, h4, h5, h9, hB, hC, hnext, hK⟩
    clear hw
    have kk : ∀ (v : Value), Keep H0 (H.set (H0.next + 1) (some (.cells [v, v, v] 45))) := fun v => hK.set _ _ (by omega)
    cases m with
    | zero =>
      have d0 : decide ((i : Int) < 10) = false := by simp; omega
      subst hv
      simp (maxDischargeDepth := 40) only [Nat.reduceEqDiff, Nat.reduceLT, Nat.reduceAdd, Nat.le_refl, WK_exit, WK_ret, WK_seq, WK_cond, WK_region, WLK_nil, WLK_cons, app_fin, app_seq_normal, app_seq_exit, app_block_exit, app_inv_exit, ne_eq, not_true_eq_false, List.take_succ_cons, List.drop_succ_cons, isAggD, List.all_cons, List.all_nil, oc_int, oc_str, cells_agg, Bool.and_self, aLoad, aStore, List.cons_append, List.take_zero, List.drop_zero, List.length_cons, List.length_nil, Nat.zero_add, Keep.set, Nat.le_add_right, Option.some.injEq, exists_eq_left', str_def, AH.load, AH.store, splice, AH.get_set, want, dstOk, opR, opE, ev, put_n, put_tmps, put_none, put_defers, selfRel, aNilNil, nilC_tmp, nilC_int, ↓bind_match, ↓map_match, ↓reduceIte, Bool.false_eq_true, decide_true, Bool.or_self, Bool.false_eq_true, and_true, List.toList_toArray, List.size_toArray, List.cons_append, List.nil_append, ABody, aResults, aResult, tupleOf, body73_0, rs73, aBin_int, intBin, ty45, hn, hd, h1, h2, h4, h9, d0, hB, hC, hK, varL]
    | succ m =>
    have d0 : decide ((i : Int) < 10) = true := by simp; omega
    have g1 := pur8_44 hr (show 1 ≤ 8 by omega)
    have hb := getR1_lt r
    have hq := getR_ok hr 1
    rw [varL] at hv
    generalize hg : getR r 1 = g at g1 hb hq hv
    obtain ⟨q, b⟩ := g
    simp only at hb hq hv
    have g3 := pur8_45 (r := q) (e := 3)
    have g4 := pur8_45 (r := q) (e := 4)
    simp only [RdV.val_eq] at g1 g3 g4
    have k1 : (((1 : Nat) : Int)) = 1 := rfl
    have k3 : (((3 : Nat) : Int)) = 3 := rfl
    have k4 : (((4 : Nat) : Int)) = 4 := rfl
    rw [k1] at g1
    rw [k3] at g3
    rw [k4] at g4
    have n1 : ¬ H0.next = H0.next + 1 := by omega
    have n2 : ¬ H0.next + 1 = H0.next := by omega
    have n3 : ¬ H0.next = H.next := by omega
    have n4 : ¬ H0.next + 1 = H.next := by omega
    have n5 : ¬ H.next = H0.next := by omega
    have n6 : ¬ H.next = H0.next + 1 := by omega
    have l1 : H0.next ≤ H.next := by omega
    by_cases he : q.e = 0
    · have he' : (q.e != 0) = false := by simp [he]
      rw [if_neg (by omega)] at hv
      by_cases h9a : i = 9 ∧ 1 < b
      · rw [if_pos h9a] at hv
        subst hv
        have d1 : ((i : Int) == 9) = true := by simp; omega
        have d2 : decide ((b : Int) > 1) = true := by simp; omega
        simp (maxDischargeDepth := 40) only [Nat.reduceEqDiff, Nat.reduceLT, Nat.reduceAdd, Nat.le_refl, WK_skip, WK_ret, WK_seq, WK_cond, WK_block, WK_region, WLK_nil, WLK_cons, app_fin, app_seq_normal, app_seq_ret, app_block_ret, app_inv_ret, ne_eq, not_true_eq_false, List.take_succ_cons, List.drop_succ_cons, List.head?_cons, isAggD, List.all_cons, List.all_nil, oc_int, oc_str, cells_agg, Bool.and_self, aNew, aAlloc, aFieldAddr, aLoad, aStore, List.cons_append, List.take_zero, List.drop_zero, List.length_cons, List.length_nil, Nat.zero_add, Keep.push, Keep.set, Nat.le_add_right, Option.some.injEq, exists_eq_left', str_def, AH.load, AH.store, splice, AH.get_push, AH.get_set, Nat.succ_ne_self, want, dstOk, opR, opE, opC, ev, evs, put_n, put_tmps, put_none, put_defers, selfRel, aNilNil, nilC_tmp, nilC_int, opCallR, ↓bind_match, ↓map_match, ↓reduceIte, Bool.false_eq_true, decide_true, Bool.or_self, beq_self_eq_true, Bool.false_eq_true, true_and, and_true, List.toList_toArray, List.size_toArray, List.getElem?_toArray, List.getElem?_cons_zero, List.getElem?_cons_succ, List.cons_append, List.nil_append, ABody, aResults, aResult, tupleOf, body73_0, rs73, aBin_int, intBin, ty3, ty45, hn, hd, h1, h2, h9, d0, hB, hC, fn44, ex44, fn45, ex45, g1, g3, aExtract, n2, n3, n4, nat_bne0, he', hK, l1, d1, d2]
        rfl
      · rw [if_neg h9a] at hv
        have d12 : ((i : Int) == 9) = false ∨ ((i : Int) == 9) = true ∧ decide ((b : Int) > 1) = false := by
          by_cases h : i = 9
          · right; constructor
            · simp; omega
            · simp; omega
          · left; simp; omega
        -- the number as it comes to be
        have hp : 128 ^ i ≤ 9223372036854775808 := by
          have : 128 ^ i ≤ 128 ^ 9 := Nat.pow_le_pow_right (by decide) (by omega)
          simpa using this
        have hpm : 128 ^ i % 18446744073709551616 = 128 ^ i := Nat.mod_eq_of_lt (by omega)
        have hbm : b % 128 * 128 ^ i ≤ 9223372036854775808 ∧ x + b % 128 * 128 ^ i < 18446744073709551616 ∧ x + b % 128 * 128 ^ i < 128 ^ (i + 1) := by
          have h3 : b % 128 * 128 ^ i ≤ 127 * 128 ^ i := Nat.mul_le_mul_right _ (by omega)
          have h4 : 128 ^ (i + 1) = 128 * 128 ^ i := by rw [Nat.pow_succ, Nat.mul_comm]
          rcases Nat.lt_or_ge i 9 with h | h
          · have : 128 ^ i ≤ 128 ^ 8 := Nat.pow_le_pow_right (by decide) (by omega)
            have e8 : 128 ^ 8 = 72057594037927936 := by decide
            omega
          · have hi : i = 9 := by omega
            have hb1 : b ≤ 1 := by omega
            have h5 : b % 128 * 128 ^ i ≤ 1 * 128 ^ i := Nat.mul_le_mul_right _ (by omega)
            omega
        obtain ⟨hm1, hm2, hm3⟩ := hbm
        have e1 : IntKind.u64.wrap (((b % 128 : Nat) : Int) * ((128 ^ i % 18446744073709551616 : Nat) : Int)) = ((b % 128 * 128 ^ i : Nat) : Int) := by
          rw [hpm, ← Int.natCast_mul, wrap_u64, Nat.mod_eq_of_lt (by omega)]
        have e2 : IntKind.u64.wrap ((x : Int) + ((b % 128 * 128 ^ i : Nat) : Int)) = ((x + b % 128 * 128 ^ i : Nat) : Int) := by
          rw [← Int.natCast_add, wrap_u64, Nat.mod_eq_of_lt (by omega)]
        have e3 : IntKind.u64.wrap (((128 ^ i % 18446744073709551616 : Nat) : Int) * 128) = ((128 ^ (i + 1) % 18446744073709551616 : Nat) : Int) := by
          rw [hpm]
          have : ((128 ^ i : Nat) : Int) * 128 = ((128 ^ (i + 1) : Nat) : Int) := by rw [Nat.pow_succ, Int.natCast_mul]; rfl
          rw [this, wrap_u64]
        have e4 : IntKind.i64.wrap ((i : Int) + 1) = ((i + 1 : Nat) : Int) := by rw [wrap_i64 (by omega) (by omega)]; simp
        by_cases hm : 128 ≤ b
        · rw [if_pos hm] at hv
          have d3 : decide ((b : Int) ≥ 128) = true := by simp; omega
          rcases d12 with d1 | ⟨d1, d2⟩
          · simp (maxDischargeDepth := 40) only [Nat.reduceEqDiff, Nat.reduceLT, Nat.reduceLeDiff, Nat.reduceAdd, Int.reduceEq, Nat.le_refl, Nat.reduceLeDiff,  WK_skip, WK_exit, WK_seq, WK_cond, WK_block, WK_region, WLK_nil, WLK_cons, app_seq_normal, app_seq_exit, app_block_exit, app_inv_normal, ne_eq, not_true_eq_false, List.take_succ_cons, List.drop_succ_cons, List.head?_cons, isAggD, List.all_cons, List.all_nil, oc_int, oc_str, cells_agg, Bool.and_self, aNew, aAlloc, aFieldAddr, aLoad, aStore, List.cons_append, List.take_zero, List.drop_zero, List.length_cons, List.length_nil, Nat.zero_add, Keep.push, Keep.set, Option.some.injEq, str_def, AH.load, AH.store, splice, AH.get_push, AH.get_set, AH.next_push, AH.next_set, Nat.succ_ne_self, want, dstOk, opR, opE, opC, ev, evs, put_n, put_tmps, put_none, put_defers, selfRel, aNilNil, nilC_tmp, nilC_int, opCallR, ↓bind_match, ↓map_match, ↓reduceIte, Bool.false_eq_true, decide_true, Bool.or_self, beq_true, Bool.false_eq_true, true_and, and_true, List.toList_toArray, List.size_toArray, List.getElem?_toArray, List.getElem?_cons_zero, List.getElem?_cons_succ, List.cons_append, List.nil_append, body73_0, aBin_int, intBin, ty3, ty45, hn, hd, h1, h2, h4, h5, h9, d0, hB, hC, fn44, ex44, g1, aExtract, n2, n3, n4, nat_bne0, he', hK, l1, tmod_128, e1, e2, e3, e4, d1, d3]
            exact ⟨m, by omega, i + 1, _, q, c0, c1, c2, by omega, hq, hm3, hv, rfl, rfl, rfl, rfl, rfl, by omega⟩
          · simp (maxDischargeDepth := 40) only [Nat.reduceEqDiff, Nat.reduceLT, Nat.reduceLeDiff, Nat.reduceAdd, Int.reduceEq, Nat.le_refl, Nat.reduceLeDiff,  WK_skip, WK_exit, WK_seq, WK_cond, WK_block, WK_region, WLK_nil, WLK_cons, app_seq_normal, app_seq_exit, app_block_exit, app_inv_normal, ne_eq, not_true_eq_false, List.take_succ_cons, List.drop_succ_cons, List.head?_cons, isAggD, List.all_cons, List.all_nil, oc_int, oc_str, cells_agg, Bool.and_self, aNew, aAlloc, aFieldAddr, aLoad, aStore, List.cons_append, List.take_zero, List.drop_zero, List.length_cons, List.length_nil, Nat.zero_add, Keep.push, Keep.set, Option.some.injEq, str_def, AH.load, AH.store, splice, AH.get_push, AH.get_set, AH.next_push, AH.next_set, Nat.succ_ne_self, want, dstOk, opR, opE, opC, ev, evs, put_n, put_tmps, put_none, put_defers, selfRel, aNilNil, nilC_tmp, nilC_int, opCallR, ↓bind_match, ↓map_match, ↓reduceIte, Bool.false_eq_true, decide_true, Bool.or_self, beq_self_eq_true, Bool.false_eq_true, true_and, and_true, List.toList_toArray, List.size_toArray, List.getElem?_toArray, List.getElem?_cons_zero, List.getElem?_cons_succ, List.cons_append, List.nil_append, body73_0, aBin_int, intBin, ty3, ty45, hn, hd, h1, h2, h4, h5, h9, d0, hB, hC, fn44, ex44, g1, aExtract, n2, n3, n4, nat_bne0, he', hK, l1, tmod_128, e1, e2, e3, e4, d1, d2, d3]
            exact ⟨m, by omega, i + 1, _, q, c0, c1, c2, by omega, hq, hm3, hv, rfl, rfl, rfl, rfl, rfl, by omega⟩
        · rw [if_neg hm] at hv
          have d3 : decide ((b : Int) ≥ 128) = false := by simp; omega
          by_cases hz : b = 0 ∧ 0 < i
          · rw [if_pos hz] at hv
            subst hv
            have d4 : ((b : Int) == 0) = true := by simp; omega
            have d5 : decide ((i : Int) > 0) = true := by simp; omega
            rcases d12 with d1 | ⟨d1, d2⟩
            · simp (maxDischargeDepth := 40) only [Nat.reduceEqDiff, Nat.reduceLT, Nat.reduceAdd, Int.reduceEq, Nat.le_refl, WK_skip, WK_ret, WK_seq, WK_cond, WK_block, WK_region, WLK_nil, WLK_cons, app_fin, app_seq_normal, app_seq_ret, app_block_ret, app_inv_ret, ne_eq, not_true_eq_false, List.take_succ_cons, List.drop_succ_cons, List.head?_cons, isAggD, List.all_cons, List.all_nil, oc_int, oc_str, cells_agg, Bool.and_self, aNew, aAlloc, aFieldAddr, aLoad, aStore, List.cons_append, List.take_zero, List.drop_zero, List.length_cons, List.length_nil, Nat.zero_add, Keep.push, Keep.set, Nat.le_add_right, Option.some.injEq, exists_eq_left', str_def, AH.load, AH.store, splice, AH.get_push, AH.get_set, Nat.succ_ne_self, want, dstOk, opR, opE, opC, ev, evs, put_n, put_tmps, put_none, put_defers, selfRel, aNilNil, nilC_tmp, nilC_int, opCallR, ↓bind_match, ↓map_match, ↓reduceIte, Bool.false_eq_true, decide_true, Bool.or_self, beq_self_eq_true, beq_true, Bool.false_eq_true, true_and, and_true, List.toList_toArray, List.size_toArray, List.getElem?_toArray, List.getElem?_cons_zero, List.getElem?_cons_succ, List.cons_append, List.nil_append, ABody, aResults, aResult, tupleOf, body73_0, rs73, aBin_int, intBin, ty3, ty45, hn, hd, h1, h2, h4, h5, h9, d0, hB, hC, fn44, ex44, fn45, ex45, g1, g4, aExtract, n2, n3, n4, nat_bne0, he', hK, l1, tmod_128, e1, e2, e3, d1, d3, d4, d5]
              rfl
            · simp (maxDischargeDepth := 40) only [Nat.reduceEqDiff, Nat.reduceLT, Nat.reduceAdd, Int.reduceEq, Nat.le_refl, WK_skip, WK_ret, WK_seq, WK_cond, WK_block, WK_region, WLK_nil, WLK_cons, app_fin, app_seq_normal, app_seq_ret, app_block_ret, app_inv_ret, ne_eq, not_true_eq_false, List.take_succ_cons, List.drop_succ_cons, List.head?_cons, isAggD, List.all_cons, List.all_nil, oc_int, oc_str, cells_agg, Bool.and_self, aNew, aAlloc, aFieldAddr, aLoad, aStore, List.cons_append, List.take_zero, List.drop_zero, List.length_cons, List.length_nil, Nat.zero_add, Keep.push, Keep.set, Nat.le_add_right, Option.some.injEq, exists_eq_left', str_def, AH.load, AH.store, splice, AH.get_push, AH.get_set, Nat.succ_ne_self, want, dstOk, opR, opE, opC, ev, evs, put_n, put_tmps, put_none, put_defers, selfRel, aNilNil, nilC_tmp, nilC_int, opCallR, ↓bind_match, ↓map_match, ↓reduceIte, Bool.false_eq_true, decide_true, Bool.or_self, beq_self_eq_true, Bool.false_eq_true, true_and, and_true, List.toList_toArray, List.size_toArray, List.getElem?_toArray, List.getElem?_cons_zero, List.getElem?_cons_succ, List.cons_append, List.nil_append, ABody, aResults, aResult, tupleOf, body73_0, rs73, aBin_int, intBin, ty3, ty45, hn, hd, h1, h2, h4, h5, h9, d0, hB, hC, fn44, ex44, fn45, ex45, g1, g4, aExtract, n2, n3, n4, nat_bne0, he', hK, l1, tmod_128, e1, e2, e3, d1, d2, d3, d4, d5]
              rfl
          · rw [if_neg hz] at hv
            subst hv
            have d45 : ((b : Int) == 0) = false ∨ ((b : Int) == 0) = true ∧ decide ((i : Int) > 0) = false := by
              by_cases h : b = 0
              · right; constructor
                · simp; omega
                · simp; omega
              · left; simp; omega
            rcases d12 with d1 | ⟨d1, d2⟩
            · rcases d45 with d4 | ⟨d4, d5⟩
              · simp (maxDischargeDepth := 40) only [Nat.reduceEqDiff, Nat.reduceLT, Nat.reduceAdd, Int.reduceEq, Nat.le_refl, WK_skip, WK_ret, WK_seq, WK_cond, WK_block, WK_region, WLK_nil, WLK_cons, app_fin, app_seq_normal, app_seq_ret, app_block_ret, app_inv_ret, ne_eq, not_true_eq_false, List.take_succ_cons, List.drop_succ_cons, List.head?_cons, isAggD, List.all_cons, List.all_nil, oc_int, oc_str, cells_agg, Bool.and_self, aNew, aAlloc, aFieldAddr, aLoad, aStore, List.cons_append, List.take_zero, List.drop_zero, List.length_cons, List.length_nil, Nat.zero_add, Keep.push, Keep.set, Nat.le_add_right, Option.some.injEq, exists_eq_left', str_def, AH.load, AH.store, splice, AH.get_push, AH.get_set, Nat.succ_ne_self, want, dstOk, opR, opE, opC, ev, evs, put_n, put_tmps, put_none, put_defers, selfRel, aNilNil, nilC_tmp, nilC_int, opCallR, ↓bind_match, ↓map_match, ↓reduceIte, Bool.false_eq_true, decide_true, Bool.or_self, beq_true, Bool.false_eq_true, and_true, List.toList_toArray, List.size_toArray, List.getElem?_toArray, List.getElem?_cons_zero, List.getElem?_cons_succ, List.cons_append, List.nil_append, ABody, aResults, aResult, tupleOf, body73_0, rs73, aBin_int, intBin, ty3, ty45, hn, hd, h1, h2, h4, h5, h9, d0, hB, hC, fn44, ex44, g1, aExtract, n2, n3, n4, nat_bne0, he', hK, l1, tmod_128, e1, e2, e3, d1, d3, d4]
              · simp (maxDischargeDepth := 40) only [Nat.reduceEqDiff, Nat.reduceLT, Nat.reduceAdd, Int.reduceEq, Nat.le_refl, WK_skip, WK_ret, WK_seq, WK_cond, WK_block, WK_region, WLK_nil, WLK_cons, app_fin, app_seq_normal, app_seq_ret, app_block_ret, app_inv_ret, ne_eq, not_true_eq_false, List.take_succ_cons, List.drop_succ_cons, List.head?_cons, isAggD, List.all_cons, List.all_nil, oc_int, oc_str, cells_agg, Bool.and_self, aNew, aAlloc, aFieldAddr, aLoad, aStore, List.cons_append, List.take_zero, List.drop_zero, List.length_cons, List.length_nil, Nat.zero_add, Keep.push, Keep.set, Nat.le_add_right, Option.some.injEq, exists_eq_left', str_def, AH.load, AH.store, splice, AH.get_push, AH.get_set, Nat.succ_ne_self, want, dstOk, opR, opE, opC, ev, evs, put_n, put_tmps, put_none, put_defers, selfRel, aNilNil, nilC_tmp, nilC_int, opCallR, ↓bind_match, ↓map_match, ↓reduceIte, Bool.false_eq_true, decide_true, Bool.or_self, beq_self_eq_true, beq_true, Bool.false_eq_true, and_true, List.toList_toArray, List.size_toArray, List.getElem?_toArray, List.getElem?_cons_zero, List.getElem?_cons_succ, List.cons_append, List.nil_append, ABody, aResults, aResult, tupleOf, body73_0, rs73, aBin_int, intBin, ty3, ty45, hn, hd, h1, h2, h4, h5, h9, d0, hB, hC, fn44, ex44, g1, aExtract, n2, n3, n4, nat_bne0, he', hK, l1, tmod_128, e1, e2, e3, d1, d3, d4, d5]
            · rcases d45 with d4 | ⟨d4, d5⟩
              · simp (maxDischargeDepth := 40) only [Nat.reduceEqDiff, Nat.reduceLT, Nat.reduceAdd, Int.reduceEq, Nat.le_refl, WK_skip, WK_ret, WK_seq, WK_cond, WK_block, WK_region, WLK_nil, WLK_cons, app_fin, app_seq_normal, app_seq_ret, app_block_ret, app_inv_ret, ne_eq, not_true_eq_false, List.take_succ_cons, List.drop_succ_cons, List.head?_cons, isAggD, List.all_cons, List.all_nil, oc_int, oc_str, cells_agg, Bool.and_self, aNew, aAlloc, aFieldAddr, aLoad, aStore, List.cons_append, List.take_zero, List.drop_zero, List.length_cons, List.length_nil, Nat.zero_add, Keep.push, Keep.set, Nat.le_add_right, Option.some.injEq, exists_eq_left', str_def, AH.load, AH.store, splice, AH.get_push, AH.get_set, Nat.succ_ne_self, want, dstOk, opR, opE, opC, ev, evs, put_n, put_tmps, put_none, put_defers, selfRel, aNilNil, nilC_tmp, nilC_int, opCallR, ↓bind_match, ↓map_match, ↓reduceIte, Bool.false_eq_true, decide_true, Bool.or_self, beq_self_eq_true, beq_true, Bool.false_eq_true, and_true, List.toList_toArray, List.size_toArray, List.getElem?_toArray, List.getElem?_cons_zero, List.getElem?_cons_succ, List.cons_append, List.nil_append, ABody, aResults, aResult, tupleOf, body73_0, rs73, aBin_int, intBin, ty3, ty45, hn, hd, h1, h2, h4, h5, h9, d0, hB, hC, fn44, ex44, g1, aExtract, n2, n3, n4, nat_bne0, he', hK, l1, tmod_128, e1, e2, e3, d1, d2, d3, d4]
              · simp (maxDischargeDepth := 40) only [Nat.reduceEqDiff, Nat.reduceLT, Nat.reduceAdd, Int.reduceEq, Nat.le_refl, WK_skip, WK_ret, WK_seq, WK_cond, WK_block, WK_region, WLK_nil, WLK_cons, app_fin, app_seq_normal, app_seq_ret, app_block_ret, app_inv_ret, ne_eq, not_true_eq_false, List.take_succ_cons, List.drop_succ_cons, List.head?_cons, isAggD, List.all_cons, List.all_nil, oc_int, oc_str, cells_agg, Bool.and_self, aNew, aAlloc, aFieldAddr, aLoad, aStore, List.cons_append, List.take_zero, List.drop_zero, List.length_cons, List.length_nil, Nat.zero_add, Keep.push, Keep.set, Nat.le_add_right, Option.some.injEq, exists_eq_left', str_def, AH.load, AH.store, splice, AH.get_push, AH.get_set, Nat.succ_ne_self, want, dstOk, opR, opE, opC, ev, evs, put_n, put_tmps, put_none, put_defers, selfRel, aNilNil, nilC_tmp, nilC_int, opCallR, ↓bind_match, ↓map_match, ↓reduceIte, Bool.false_eq_true, decide_true, Bool.or_self, beq_self_eq_true, Bool.false_eq_true, and_true, List.toList_toArray, List.size_toArray, List.getElem?_toArray, List.getElem?_cons_zero, List.getElem?_cons_succ, List.cons_append, List.nil_append, ABody, aResults, aResult, tupleOf, body73_0, rs73, aBin_int, intBin, ty3, ty45, hn, hd, h1, h2, h4, h5, h9, d0, hB, hC, fn44, ex44, g1, aExtract, n2, n3, n4, nat_bne0, he', hK, l1, tmod_128, e1, e2, e3, d1, d2, d3, d4, d5]
    · have he' : (q.e != 0) = true := by simp [he]
      rw [if_pos he] at hv
      subst hv
      simp (maxDischargeDepth := 40) only [Nat.reduceEqDiff, Nat.reduceLT, Nat.reduceAdd, Nat.le_refl, WK_skip, WK_ret, WK_seq, WK_cond, WK_block, WK_region, WLK_nil, WLK_cons, app_fin, app_seq_normal, app_seq_ret, app_block_ret, app_inv_ret, ne_eq, not_true_eq_false, List.take_succ_cons, List.drop_succ_cons, List.head?_cons, isAggD, List.all_cons, List.all_nil, oc_int, oc_str, cells_agg, Bool.and_self, aNew, aAlloc, aFieldAddr, aLoad, aStore, List.cons_append, List.take_zero, List.drop_zero, List.length_cons, List.length_nil, Nat.zero_add, Keep.push, Keep.set, Nat.le_add_right, Option.some.injEq, exists_eq_left', str_def, AH.load, AH.store, splice, AH.get_push, AH.get_set, Nat.succ_ne_self, want, dstOk, opR, opE, opC, ev, evs, put_n, put_tmps, put_none, put_defers, selfRel, aNilNil, nilC_tmp, nilC_int, opCallR, ↓bind_match, ↓map_match, ↓reduceIte, Bool.false_eq_true, decide_true, Bool.or_self, Bool.false_eq_true, true_and, and_true, List.toList_toArray, List.size_toArray, List.getElem?_toArray, List.getElem?_cons_zero, List.getElem?_cons_succ, List.cons_append, List.nil_append, ABody, aResults, aResult, tupleOf, body73_0, rs73, aBin_int, intBin, ty3, ty45, hn, hd, h1, h2, h9, d0, hB, hC, fn44, ex44, g1, aExtract, n2, n3, n4, nat_bne0, he', hK, l1]
      rfl

end Go.Am.Q

/- The document's reader: a number of at most so much. -/
set_option linter.unusedSimpArgs false
set_option linter.unusedSectionVars false
set_option maxRecDepth 20000
namespace Go.Am.Q
open Go Go.Am Go.Proofs
variable [F : Fr]

def L9 : PureF := fun g args =>
  match g, args with
  | 73, [v] => (rdArgs v).bind fun r => if r.Ok then some (.tuple #[(varR r).1.val, .int .u64 (varR r).2]) else none
  | 46, [v] => (rdArgs v).bind fun r => if r.Ok then some (.tuple #[(fltR r).1.val, .float .f64 (fltR r).2]) else none
  | _, _ => none

theorem L9_ok : PureOk P L9 := by
  intro g args v h
  unfold L9 at h
  split at h <;> try (cases h; done)
  · rw [Option.bind_eq_some_iff] at h
    obtain ⟨r, hr, h⟩ := h
    split at h <;> cases h
    rename_i hc
    rw [rdArgs_val hr]
    exact p73 hc
  · rw [Option.bind_eq_some_iff] at h
    obtain ⟨r, hr, h⟩ := h
    split at h <;> cases h
    rename_i hc
    rw [rdArgs_val hr]
    exact p46 hc

def pur9 : PureF := altP pur8 L9
theorem pur9_ok : PureOk P pur9 := altP_ok pur8_ok L9_ok

theorem pur9_73 {r : RdV} (hr : r.Ok) : pur9 73 [r.val] = some (.tuple #[(varR r).1.val, .int .u64 (varR r).2]) := by
  have : pur9 73 [r.val] = if r.Ok then some (.tuple #[(varR r).1.val, .int .u64 (varR r).2]) else none := rfl
  rw [this, if_pos hr]
theorem pur9_46 {r : RdV} (hr : r.Ok) : pur9 46 [r.val] = some (.tuple #[(fltR r).1.val, .float .f64 (fltR r).2]) := by
  have : pur9 46 [r.val] = if r.Ok then some (.tuple #[(fltR r).1.val, .float .f64 (fltR r).2]) else none := rfl
  rw [this, if_pos hr]
theorem pur9_44 {r : RdV} {n : Nat} (hr : r.Ok) (hn : n ≤ 8) : pur9 44 [r.val, .int .i64 (n : Int)] = some (.tuple #[(getR r n).1.val, .int .u64 (getR r n).2]) := altP_left (pur8_44 hr hn)
theorem pur9_45 {r : RdV} {e : Nat} : pur9 45 [r.val, .int .i64 (e : Int)] = some (failR r e).val := rfl
theorem pur9_41 (b : Nat) : pur9 41 [.float .f64 b] = some (.int .u64 (textB b)) := rfl

theorem failR_ok {r : RdV} (h : r.Ok) {e : Nat} (he : e ≤ 255) : (failR r e).Ok := by
  unfold failR
  split
  · exact ⟨h.1, he⟩
  · exact h

theorem varL_ok : ∀ (k i x : Nat) (r : RdV), i + k = 10 → 0 < k → r.Ok → x < 128 ^ i → (varL k i x r).1.Ok ∧ (varL k i x r).2 < 18446744073709551616 := by
  intro k
  induction k with
  | zero => intro i x r _ h; omega
  | succ k ih =>
    intro i x r hi _ hr hx
    have hq := getR_ok hr 1
    have hb := getR1_lt r
    rw [varL]
    generalize getR r 1 = g at hq hb
    obtain ⟨q, b⟩ := g
    simp only at hq hb ⊢
    split
    · exact ⟨hq, Nat.zero_lt_succ _⟩
    · split
      · exact ⟨failR_ok hq (by decide), Nat.zero_lt_succ _⟩
      · rename_i h9
        have h3 : b % 128 * 128 ^ i ≤ 127 * 128 ^ i := Nat.mul_le_mul_right _ (by omega)
        have h4 : 128 ^ (i + 1) = 128 * 128 ^ i := by rw [Nat.pow_succ, Nat.mul_comm]
        have hm : x + b % 128 * 128 ^ i < 18446744073709551616 ∧ x + b % 128 * 128 ^ i < 128 ^ (i + 1) := by
          rcases Nat.lt_or_ge i 9 with h | h
          · have : 128 ^ i ≤ 128 ^ 8 := Nat.pow_le_pow_right (by decide) (by omega)
            have e8 : 128 ^ 8 = 72057594037927936 := by decide
            omega
          · have hi : i = 9 := by omega
            have hb1 : b ≤ 1 := by omega
            have h5 : b % 128 * 128 ^ i ≤ 1 * 128 ^ i := Nat.mul_le_mul_right _ (by omega)
            have e9 : 128 ^ i = 9223372036854775808 := by rw [hi]
            omega
        split
        · exact ih _ _ _ (by omega) (by omega) hq hm.2
        · split
          · exact ⟨failR_ok hq (by decide), Nat.zero_lt_succ _⟩
          · exact ⟨hq, hm.1⟩

theorem varR_ok {r : RdV} (hr : r.Ok) : (varR r).1.Ok ∧ (varR r).2 < 18446744073709551616 := varL_ok 10 0 0 r rfl (by decide) hr (by decide)

def numberR (r : RdV) (most : Nat) : RdV × Nat :=
  if (varR r).1.e = 0 ∧ most < (varR r).2 then (failR (varR r).1 3, 0) else varR r

theorem p43 {r : RdV} {most : Nat} (hr : r.Ok) : PureC P 43 [r.val, .int .u64 most] (.tuple #[(numberR r most).1.val, .int .u64 (numberR r most).2]) := by
  refine PureC_of rfl fun H0 => ?_
  refine ACalls_K E (fnOf_ok P) mixed pur9_ok fn43 ok43 sx43 (by simp [nt43]) ?_
  simp only [nt43]
  have h1 := pur9_73 hr
  unfold numberR
  generalize hg : varR r = g at h1
  obtain ⟨q, n⟩ := g
  have h2 := pur9_45 (r := q) (e := 3)
  simp only [RdV.val_eq] at h1 h2
  have h4 : (((3 : Nat) : Int)) = 3 := rfl
  rw [h4] at h2
  by_cases he : q.e = 0
  · have he' : (q.e == 0) = true := by simp [he]
    by_cases hm : most < n
    · have d1 : decide ((n : Int) > (most : Int)) = true := by simp; omega
      rw [if_pos ⟨he, hm⟩]
      simp (maxDischargeDepth := 40) only [Nat.reduceEqDiff, Nat.reduceLT, Nat.reduceAdd, Nat.le_refl, WK_ret, WK_seq, WK_cond, WK_region, WLK_nil, WLK_cons, app_fin, app_seq_normal, app_seq_ret, ne_eq, not_true_eq_false, List.take_succ_cons, List.drop_succ_cons, List.head?_cons, isAggD, List.all_cons, List.all_nil, oc_int, oc_str, cells_agg, Bool.and_self, aBox, aNew, aAlloc, aFieldAddr, aLoad, aStore, List.cons_append, List.take_zero, List.drop_zero, List.length_cons, List.length_nil, Nat.zero_add, Keep.refl, Keep.push, Keep.set, Nat.le_add_right, Option.some.injEq, exists_eq_left', str_def, AH.load, AH.store, splice, AH.get_push, AH.get_set, AH.next_push, Nat.left_eq_add, Nat.succ_ne_self, want, dstOk, opR, opE, opC, ev, evs, entry, argT, put_n, put_tmps, put_none, put_defers, selfRel, aNilNil, nilC_tmp, nilC_int, opCallR, ↓bind_match, ↓map_match, ↓reduceIte, Bool.false_eq_true, decide_true, Bool.or_self, beq_self_eq_true, Bool.false_eq_true, true_and, and_true, List.toList_toArray, List.size_toArray, List.getElem?_toArray, List.getElem?_cons_zero, List.getElem?_cons_succ, List.cons_append, List.nil_append, ABody, aResults, aResult, tupleOf, code43, rs43, aBin_int, intBin, ty3, ty45, RdV.val_eq, fn73, ex73, fn45, ex45, h1, h2, aExtract, nat_beq0, he', d1]
      rfl
    · have d1 : decide ((n : Int) > (most : Int)) = false := by simp; omega
      rw [if_neg (fun h => hm h.2)]
      simp (maxDischargeDepth := 40) only [Nat.reduceEqDiff, Nat.reduceLT, Nat.reduceAdd, Nat.le_refl, WK_skip, WK_ret, WK_seq, WK_cond, WK_region, WLK_nil, WLK_cons, app_fin, app_seq_normal, ne_eq, not_true_eq_false, List.take_succ_cons, List.drop_succ_cons, List.head?_cons, isAggD, List.all_cons, List.all_nil, oc_int, oc_str, cells_agg, Bool.and_self, aBox, aNew, aAlloc, aFieldAddr, aLoad, aStore, List.cons_append, List.take_zero, List.drop_zero, List.length_cons, List.length_nil, Nat.zero_add, Keep.refl, Keep.push, Keep.set, Nat.le_add_right, Option.some.injEq, exists_eq_left', str_def, AH.load, AH.store, splice, AH.get_push, AH.get_set, AH.next_push, Nat.left_eq_add, Nat.succ_ne_self, want, dstOk, opR, opE, opC, ev, evs, entry, argT, put_n, put_tmps, put_none, put_defers, selfRel, aNilNil, nilC_tmp, nilC_int, opCallR, ↓bind_match, ↓map_match, ↓reduceIte, Bool.false_eq_true, decide_true, Bool.or_self, beq_self_eq_true, Bool.false_eq_true, and_true, List.toList_toArray, List.size_toArray, List.getElem?_toArray, List.getElem?_cons_zero, List.getElem?_cons_succ, List.cons_append, List.nil_append, ABody, aResults, aResult, tupleOf, code43, rs43, aBin_int, intBin, ty3, ty45, RdV.val_eq, fn73, ex73, h1, aExtract, nat_beq0, he', d1]
  · have he' : (q.e == 0) = false := by simp [he]
    rw [if_neg (fun h => he h.1)]
    simp (maxDischargeDepth := 40) only [Nat.reduceEqDiff, Nat.reduceLT, Nat.reduceAdd, Nat.le_refl, WK_skip, WK_ret, WK_seq, WK_cond, WK_region, WLK_nil, WLK_cons, app_fin, app_seq_normal, ne_eq, not_true_eq_false, List.take_succ_cons, List.drop_succ_cons, List.head?_cons, isAggD, List.all_cons, List.all_nil, oc_int, oc_str, cells_agg, Bool.and_self, aBox, aNew, aAlloc, aFieldAddr, aLoad, aStore, List.cons_append, List.take_zero, List.drop_zero, List.length_cons, List.length_nil, Nat.zero_add, Keep.refl, Keep.push, Keep.set, Nat.le_add_right, Option.some.injEq, exists_eq_left', str_def, AH.load, AH.store, splice, AH.get_push, AH.get_set, AH.next_push, Nat.left_eq_add, Nat.succ_ne_self, want, dstOk, opR, opE, opC, ev, evs, entry, argT, put_n, put_tmps, put_none, put_defers, selfRel, aNilNil, nilC_tmp, nilC_int, opCallR, ↓bind_match, ↓map_match, ↓reduceIte, Bool.false_eq_true, decide_true, Bool.or_self, beq_true, Bool.false_eq_true, and_true, List.toList_toArray, List.size_toArray, List.getElem?_toArray, List.getElem?_cons_zero, List.getElem?_cons_succ, List.cons_append, List.nil_append, ABody, aResults, aResult, tupleOf, code43, rs43, aBin_int, intBin, ty3, ty45, RdV.val_eq, fn73, ex73, h1, aExtract, nat_beq0, he']

theorem numberR_ok {r : RdV} (hr : r.Ok) (most : Nat) : (numberR r most).1.Ok ∧ (numberR r most).2 < 18446744073709551616 := by
  have := varR_ok hr
  unfold numberR
  split
  · exact ⟨failR_ok this.1 (by decide), Nat.zero_lt_succ _⟩
  · exact this

theorem fltR_ok {r : RdV} (hr : r.Ok) : (fltR r).1.Ok ∧ (fltR r).2 < 18446744073709551616 := by
  have h := getR_ok hr 8
  have h8 := getR8_lt r
  unfold fltR
  split
  · split
    · exact ⟨h, h8⟩
    · exact ⟨failR_ok h (by decide), Nat.zero_lt_succ _⟩
  · exact ⟨h, Nat.zero_lt_succ _⟩

end Go.Am.Q

/- The document's notes, as they are written. -/
set_option linter.unusedSimpArgs false
set_option linter.unusedSectionVars false
set_option maxRecDepth 20000
namespace Go.Am.Q
open Go Go.Am Go.Proofs
variable [F : Fr]

def numB : Nat → Nat → List UInt8
  | 0, _ => []
  | k + 1, x => if x < 128 then [UInt8.ofNat x] else UInt8.ofNat (128 + x % 128) :: numB k (x / 128)

theorem numB_length : ∀ k x, (numB k x).length ≤ k := by
  intro k
  induction k with
  | zero => intro x; simp [numB]
  | succ k ih => intro x; unfold numB; split <;> simp; exact ih _

def purN (k : Nat) : PureF := fun g args =>
  match g, args with
  | 39, [.int .u64 (.ofNat x)] => if 0 < k ∧ x < 128 ^ k ∧ x < 18446744073709551616 then some (str (numB k x)) else none
  | _, _ => none

theorem purN_eq (k x : Nat) (h0 : 0 < k) (h : x < 128 ^ k) (h2 : x < 18446744073709551616) : purN k 39 [.int .u64 (x : Int)] = some (str (numB k x)) := by
  have : purN k 39 [.int .u64 (.ofNat x)] = if 0 < k ∧ x < 128 ^ k ∧ x < 18446744073709551616 then some (str (numB k x)) else none := rfl
  rw [if_pos ⟨h0, h, h2⟩] at this
  exact this

set_option maxRecDepth 10000 in
theorem num_step (k : Nat) (hk : k ≤ 1000) (ih : PureOk P (purN k)) (x : Nat) (hx : x < 128 ^ (k + 1)) (hx2 : x < 18446744073709551616) :
    PureC P 39 [.int .u64 x] (str (numB (k + 1) x)) := by
  intro H R hR
  refine ACalls_pure (selfRel_str _ _) ?_ hR
  refine ACalls_K E (fnOf_ok P) mixed ih fn39 ok39 sx39 (by simp [nt39]) ?_
  have hq : x / 128 % 18446744073709551616 = x / 128 := Nat.mod_eq_of_lt (by omega)
  have hu : x % 18446744073709551616 = x := Nat.mod_eq_of_lt hx2
  by_cases h : x < 128
  · have hd : decide ((x : Int) < 128) = true := by simp; omega
    have hn : numB (k + 1) x = [UInt8.ofNat x] := by simp [numB, h]
    simp only [nt39]
    simp (maxDischargeDepth := 40) only [Nat.reduceLT, reduceCtorEq, Nat.le_refl, WK_ret, WK_seq, WK_cond, WK_region, WLK_nil, WLK_cons, app_fin, app_seq_normal, app_seq_ret, ne_eq, not_true_eq_false, List.take_succ_cons, List.take_zero, List.drop_zero, List.length_cons, List.length_nil, Nat.zero_add, bytesOf_one, selfRel_str, u8_wrap, Keep.refl, Keep.push, Option.some.injEq, exists_eq_left', str_def, aConvert, AH.load, AH.get_push, Nat.succ_ne_self, want, dstOk, opR, opE, ev, evParts, entry, argT, put_n, put_tmps, put_defers, selfRel, aNilNil, nilC_tmp, nilC_int, ↓bind_match, ↓map_match, ↓reduceIte, Bool.false_eq_true, decide_true, Bool.or_self, Bool.false_eq_true, and_true, ABody, aResults, aResult, tupleOf, code39, rs39, ty5, ty30, ty23, ty9, aBin_int, intBin, bs23, hd, hn]
  · have hd : decide ((x : Int) < 128) = false := by simp; omega
    have hn : numB (k + 1) x = UInt8.ofNat (128 + x % 128) :: numB k (x / 128) := by simp [numB, h]
    have hk0 : k ≠ 0 := by rintro rfl; simp at hx; omega
    have hp : purN k 39 [.int .u64 ((x / 128 : Nat) : Int)] = some (str (numB k (x / 128))) := purN_eq k (x / 128) (by omega) (by rw [Nat.pow_succ] at hx; omega) (by omega)
    have hl := numB_length k (x / 128)
    have hc : ((128 : Int) + ((x % 128 : Nat) : Int)) = ((128 + x % 128 : Nat) : Int) := by simp
    have hadd : ∀ b : UInt8, aBin E.ty E.eqOk .add 9 (str [b]) (str (numB k (x / 128))) = some (str (b :: numB k (x / 128))) := fun b => str_add _ _ (by simp; omega)
    simp only [nt39]
    simp (maxDischargeDepth := 40) only [Nat.reduceEqDiff, Nat.reduceLT, reduceCtorEq, Int.reduceEq, Nat.le_refl, WK_skip, WK_ret, WK_seq, WK_cond, WK_region, WK_draw, WLK_nil, WLK_cons, WPK_cons, app_fin, app_seq_normal, WChks, WChk, evNewA, opRP, ne_eq, not_true_eq_false, List.take_succ_cons, List.cons_append, List.take_zero, List.drop_zero, List.length_cons, List.length_nil, Nat.zero_add, bytesOf_one, selfRel_str, u8_wrap, u8_mod64, Keep.refl, Keep.push, Option.some.injEq, exists_eq_left', str_def, aConvert, AH.load, AH.get_push, Nat.succ_ne_self, want, dstOk, opR, opE, opC, ev, evs, evParts, entry, argT, put_n, put_tmps, put_defers, selfRel, aNilNil, nilC_tmp, nilC_int, opCallR, ↓bind_match, ↓map_match, ↓reduceIte, Bool.false_eq_true, decide_true, Bool.or_self, Bool.false_eq_true, and_true, List.getElem?_toArray, List.getElem?_cons_zero, List.getElem?_cons_succ, List.cons_append, List.nil_append, ABody, aResults, aResult, tupleOf, code39, rs39, pl39_3, ty5, ty30, ty23, ty9, aBin_int, intBin, bs23, fn39, ex39, tdiv_128, tmod_128, wrap_u64, hq, hp, hadd, hd, hn, hc]

theorem num_pure (k : Nat) (hk : k ≤ 1000) : PureOk P (purN k) := by
  induction k with
  | zero =>
    intro g args v h
    unfold purN at h
    split at h <;> simp at h
  | succ k ih =>
    intro g args v h
    unfold purN at h
    split at h <;> try (cases h; done)
    rename_i x
    split at h <;> try (cases h; done)
    rename_i hx
    cases h
    exact num_step k (by omega) (ih (by omega)) x hx.2.1 hx.2.2

def num (x : Nat) : List UInt8 := numB 10 x

theorem num_length (x : Nat) : (num x).length ≤ 10 := numB_length 10 x

def pur10 : PureF := altP pur9 (purN 10)
theorem pur10_ok : PureOk P pur10 := altP_ok pur9_ok (num_pure 10 (by decide))

theorem pur10_39 {x : Nat} (hx : x < 18446744073709551616) : pur10 39 [.int .u64 (x : Int)] = some (str (num x)) := purN_eq 10 x (by decide) (by omega) hx
theorem pur10_42 {n : NoteV} (hn : n.Ok) : pur10 42 [n.val] = some (.float .f64 n.health) :=
  altP_left (altP_left (altP_left (altP_left (altP_left (pur5_42 hn)))))
theorem pur10_41 (b : Nat) : pur10 41 [.float .f64 b] = some (.int .u64 (textB b)) := rfl
theorem pur6_40 {x n : Nat} (hx : x < 18446744073709551616) (hn : n ≤ 1000) : pur6 40 [.int .u64 (x : Int), .int .i64 (n : Int)] = some (str (leL n x)) := by
  have : pur6 40 [.int .u64 (x : Int), .int .i64 (n : Int)] = if x < 18446744073709551616 ∧ n ≤ 1000 then some (str (leL n x)) else none := rfl
  rw [this, if_pos ⟨hx, hn⟩]
theorem pur10_40 {x n : Nat} (hx : x < 18446744073709551616) (hn : n ≤ 1000) : pur10 40 [.int .u64 (x : Int), .int .i64 (n : Int)] = some (str (leL n x)) :=
  altP_left (altP_left (altP_left (altP_left (pur6_40 hx hn))))

/-! notes -/

def NoteV.nums (n : NoteV) : List Int := [n.bytes, n.erased, n.chunks, n.empty, n.found, n.good]

def NoteV.text (n : NoteV) : List UInt8 := num n.number ++ n.nums.flatMap (fun x => num x.toNat) ++ [if n.whole then 1 else 0] ++ leL 8 n.health

def notesText (ns : List NoteV) : List UInt8 := num ns.length ++ ns.flatMap NoteV.text

/-- A row of notes in a heap. -/
def NotesAt (H : AH) (e : TypeId) (v : Value) (ns : List NoteV) : Prop :=
  (v = .slice none 0 0 ∧ ns = []) ∨ ∃ b cap, v = .slice (some ⟨b, 0, none⟩) ns.length cap ∧ H.get b = some (.cells (ns.flatMap NoteV.cells) e) ∧ b < H.next

theorem NotesAt.len {H : AH} {e : TypeId} {v : Value} {ns : List NoteV} (h : NotesAt H e v ns) : ∃ a cap, v = .slice a ns.length cap := by
  rcases h with ⟨rfl, rfl⟩ | ⟨b, cap, rfl, _, _⟩
  · exact ⟨_, _, rfl⟩
  · exact ⟨_, _, rfl⟩

theorem NotesAt.keep {H H' : AH} {e : TypeId} {v : Value} {ns : List NoteV} (h : NotesAt H e v ns) (hk : Keep H H') : NotesAt H' e v ns := by
  rcases h with h | ⟨b, cap, h1, h2, h3⟩
  · exact .inl h
  · exact .inr ⟨b, cap, h1, by rw [hk.2 b h3]; exact h2, Nat.lt_of_lt_of_le h3 hk.1⟩

theorem NoteV.health_le (n : NoteV) : n.health ≤ fOne := by
  unfold NoteV.health
  split
  · exact Nat.le_refl _
  · exact ratioN_le

theorem NoteV.health_text (n : NoteV) : textB n.health = n.health := textB_pos (Nat.le_trans n.health_le (by decide))

theorem NoteV.text_length (n : NoteV) : n.text.length ≤ 100 := by
  unfold NoteV.text
  have h := fun x => num_length x
  simp only [List.length_append, NoteV.nums, List.flatMap_cons, List.flatMap_nil, List.length_nil, leL_length, List.length_cons]
  have h0 := h n.number
  have h1 := h n.bytes.toNat
  have h2 := h n.erased.toNat
  have h3 := h n.chunks.toNat
  have h4 := h n.empty.toNat
  have h5 := h n.found.toNat
  have h6 := h n.good.toNat
  omega

end Go.Am.Q

/- The document's notes, written: the walk. -/
set_option linter.unusedSimpArgs false
set_option linter.unusedSectionVars false
set_option maxRecDepth 20000
namespace Go.Am.Q
open Go Go.Am Go.Proofs
variable [F : Fr]

theorem NoteV.cells_length (n : NoteV) : n.cells.length = 8 := rfl

def noteHead (ns : List NoteV) (i : Nat) : List UInt8 := num ns.length ++ (ns.take i).flatMap NoteV.text

theorem noteHead_length {ns : List NoteV} {i : Nat} (h : ns.length ≤ 1000) : (noteHead ns i).length ≤ 200000 := by
  have key : ∀ l : List NoteV, (l.flatMap NoteV.text).length ≤ 100 * l.length := by
    intro l
    induction l with
    | nil => simp
    | cons n l ih =>
      have := n.text_length
      simp only [List.flatMap_cons, List.length_append, List.length_cons]
      omega
  have h1 := key (ns.take i)
  have h2 : (ns.take i).length ≤ ns.length := by simp; omega
  have h3 := num_length ns.length
  unfold noteHead
  simp only [List.length_append]
  omega

theorem aLen34 (H : AH) (a : Option Addr) (n c : Nat) : aLen E.ty H 34 (.slice a n c) = some (.int .i64 n) := aLen_slice ty34 rfl a n c

theorem bs34 (H : AH) (a b c d e f : Int) : aBuildSlice E.ty H 34 6 #[(0, .int .i64 a), (1, .int .i64 b), (2, .int .i64 c), (3, .int .i64 d), (4, .int .i64 e), (5, .int .i64 f)] =
    some (.slice (some ⟨H.next, 0, none⟩) 6 6, H.push (.cells [.int .i64 a, .int .i64 b, .int .i64 c, .int .i64 d, .int .i64 e, .int .i64 f] 3)) := by
  have hz : zeroRow ⟨.int .i64, 1, 8, .int .i64 0⟩ 6 = #[.int .i64 0, .int .i64 0, .int .i64 0, .int .i64 0, .int .i64 0, .int .i64 0] := by kernel_rfl
  have hf : Instr.fill (fun i => some (i, 1)) #[.int .i64 0, .int .i64 0, .int .i64 0, .int .i64 0, .int .i64 0, .int .i64 0]
      [(0, .int .i64 a), (1, .int .i64 b), (2, .int .i64 c), (3, .int .i64 d), (4, .int .i64 e), (5, .int .i64 f)] = some #[.int .i64 a, .int .i64 b, .int .i64 c, .int .i64 d, .int .i64 e, .int .i64 f] := by
    simp [Instr.fill, cells_int]
  simp only [aBuildSlice, ty34, ty3, Nat.mul_one, hz, hf, Option.bind_some, List.all_cons, List.all_nil, oc_int, Bool.and_self]
  rfl

theorem NoteV.Ok.nums_ok {n : NoteV} (h : n.Ok) : ∀ y ∈ n.nums, i64ok y := by
  intro y hy
  obtain ⟨_, q1, q2, q3, q4, q5, q6⟩ := h
  simp only [NoteV.nums, List.mem_cons, List.not_mem_nil, or_false] at hy
  rcases hy with rfl | rfl | rfl | rfl | rfl | rfl <;> assumption

theorem text_walk {H0 : AH} {v : Value} {ns : List NoteV} (hv : NotesAt H0 33 v ns) (hok : ∀ n ∈ ns, n.Ok) (hl : ns.length ≤ 1000) :
    ACalls P 12 [v] H0 fun e H' => e = .returned (str (notesText ns)) ∧ Keep H0 H' := by
  refine ACalls_K E (fnOf_ok P) mixed pur10_ok fn12 ok12 sx12 (by simp [nt12]) ?_
  simp only [nt12]
  obtain ⟨va, vc, hve⟩ := hv.len
  have hn1 := pur10_39 (x := ns.length) (by omega)
  have hw1 : ns.length % 18446744073709551616 = ns.length := Nat.mod_eq_of_lt (by omega)
  subst hve
  have e1 : ∀ H, aLen E.ty H 29 (.slice va ns.length vc) = some (.int .i64 ns.length) := fun H => aLen_slice ty29 rfl _ _ _
  simp (maxDischargeDepth := 40) only [Nat.reduceLT, reduceCtorEq, WK_seq, WK_block, WK_loop, WK_region, WLK_nil, WLK_cons, app_seq_normal, List.cons_append, selfRel_str, str_def, aConvert, want, dstOk, opR, opE, opC, ev, evs, entry, argT, put_n, put_tmps, selfRel, opCallR, ↓bind_match, ↓reduceIte, decide_true, true_and, List.cons_append, List.nil_append, code12, ty3, ty30, fn39, ex39, e1, hn1, wrap_u64, hw1]
  refine ⟨fun m a H => ∃ i, i + m = ns.length ∧ a.n = 62 ∧ a.defers = [] ∧ a.tmps 3 = some (str (noteHead ns i)) ∧ a.tmps 12 = some (.slice va ns.length vc) ∧
    a.tmps 13 = some (.int .i64 ns.length) ∧ a.tmps 14 = some (.int .i64 i) ∧ Keep H0 H, ns.length, ?_, ?_⟩
  · refine ⟨0, by omega, ?_⟩
    simp (maxDischargeDepth := 40) only [Nat.reduceEqDiff, List.take_zero, Keep.refl, Option.some.injEq, put_n, put_tmps, put_defers, ↓reduceIte, true_and, and_true, noteHead, List.flatMap_nil, List.append_nil]
    rfl
  · rintro m a H ⟨i, him, hn, hd, h3, h12, h13, h14, hK⟩
    by_cases hi : i < ns.length
    · have d0 : decide ((i : Int) < (ns.length : Int)) = true := by simp; omega
      rcases hv with ⟨_, hnil⟩ | ⟨b, cap, hsl, hB0, hb⟩
      · rw [hnil] at hi; simp at hi
      · cases hsl
        have hB : H.get b = some (.cells (ns.flatMap NoteV.cells) 33) := by rw [hK.2 b hb]; exact hB0
        obtain ⟨x, hx⟩ : ∃ x, ns[i]? = some x := ⟨ns[i], by simp [hi]⟩
        obtain ⟨r1, r2⟩ := take_row NoteV.cells 8 NoteV.cells_length hx
        have hxm : x ∈ ns := List.mem_of_getElem? hx
        have hxo := hok x hxm
        have e2 : aIndexAddr E.ty 29 (.slice (some ⟨b, 0, none⟩) ns.length vc) (.int .i64 (i : Int)) = some (.pointer (some ⟨b, 0 + i * 8, none⟩)) := aIndexAddr_slice ty29 rfl ty33 hi
        have nb : ¬ b = H.next := by have := hK.1; omega
        have nb2 : ¬ b = H.next + 1 := by have := hK.1; omega
        have hnum := pur10_39 hxo.number
        have ha1 : aBin E.ty E.eqOk .add 9 (str (noteHead ns i)) (str (num x.number)) = some (str (noteHead ns i ++ num x.number)) := by
          have := noteHead_length (i := i) hl
          have := num_length x.number
          exact str_add _ _ (by omega)
        simp (maxDischargeDepth := 40) only [Nat.reduceEqDiff, Nat.reduceLT, Nat.reduceLeDiff, Nat.reduceAdd, Nat.le_refl, Nat.reduceLeDiff,  WK_skip, WK_seq, WK_cond, WK_block, WK_loop, WK_region, WLK_nil, WLK_cons, app_seq_normal, ne_eq, not_true_eq_false, List.take_succ_cons, List.drop_succ_cons, List.head?_cons, isAggD, List.all_cons, List.all_nil, oc_int, oc_bool, cells_agg, Bool.and_self, aNew, aAlloc, aFieldAddr, aLoad, aStore, List.cons_append, List.take_zero, List.drop_zero, List.length_cons, List.length_nil, Nat.zero_add, str_def, AH.load, AH.store, splice, AH.get_push, AH.get_set, AH.next_push, AH.next_set, Nat.succ_ne_self, want, dstOk, opR, opE, opC, ev, evs, evParts, put_n, put_tmps, put_none, selfRel, aNilNil, nilC_tmp, opCallR, ↓bind_match, ↓map_match, ↓reduceIte, Bool.false_eq_true, decide_true, Bool.or_self, Bool.false_eq_true, true_and, and_true, List.toList_toArray, List.size_toArray, List.getElem?_toArray, List.getElem?_cons_zero, List.getElem?_cons_succ, List.cons_append, List.nil_append, body12_1, aBin_int, intBin, ty3, ty30, ty33, hn, h3, h12, h13, h14, d0, e2, hB, r1, r2, NoteV.cells, fn39, ex39, hnum, ha1, bs34, aLen34]
        have hcl : x.nums.length = 6 := rfl
        have hkk := hK.1
        refine ⟨fun k a H2 => ∃ j, j + k = 6 ∧ a.n = 62 ∧ a.defers = [] ∧ a.tmps 3 = some (str (noteHead ns i ++ num x.number ++ (x.nums.take j).flatMap fun y => num y.toNat)) ∧
          a.tmps 12 = some (.slice (some ⟨b, 0, none⟩) ns.length vc) ∧ a.tmps 13 = some (.int .i64 ns.length) ∧ a.tmps 14 = some (.int .i64 i) ∧
          a.tmps 5 = some (.pointer (some ⟨H.next, 0, none⟩)) ∧ a.tmps 35 = some (.slice (some ⟨H.next + 1, 0, none⟩) 6 6) ∧ a.tmps 36 = some (.int .i64 6) ∧ a.tmps 37 = some (.int .i64 j) ∧
          H2.get H.next = some (.cells [.int .u64 x.number, .int .i64 x.bytes, .int .i64 x.erased, .int .i64 x.chunks, .int .i64 x.empty, .int .i64 x.found, .int .i64 x.good, .bool x.whole] 33) ∧
          H2.get (H.next + 1) = some (.cells (x.nums.map (.int .i64)) 3) ∧ H.next + 2 ≤ H2.next ∧ Keep H0 H2, 6, ?_, ?_⟩
        · refine ⟨0, rfl, ?_⟩
          simp (maxDischargeDepth := 40) only [Nat.reduceEqDiff, Nat.le_refl, List.take_zero, Keep.push, Keep.set, Option.some.injEq, AH.get_push, AH.get_set, AH.next_push, AH.next_set, Nat.left_eq_add, Nat.succ_ne_self, put_n, put_tmps, put_defers, ↓reduceIte, true_and, and_true, List.flatMap_nil, List.append_nil, NoteV.nums, List.map_cons, List.map_nil, hK, hkk]
          exact ⟨hn, hd, h12, h13, h14, rfl, rfl⟩
        · rintro k a' H2 ⟨j, hjk, hn', hd', h3', h12', h13', h14', h5', h35', h36', h37', hB', hC', hnx', hK'⟩
          by_cases hj : j < 6
          · have d1 : decide ((j : Int) < 6) = true := by simp; omega
            obtain ⟨y, hy⟩ : ∃ y, x.nums[j]? = some y := ⟨_, List.getElem?_eq_getElem (by rw [hcl]; exact hj)⟩
            have hy' : (x.nums.map (Value.int .i64))[j]? = some (.int .i64 y) := by simp [hy]
            obtain ⟨s1, s2⟩ := take_one hy'
            have e3 : aIndexAddr E.ty 34 (.slice (some ⟨H.next + 1, 0, none⟩) 6 6) (.int .i64 (j : Int)) = some (.pointer (some ⟨H.next + 1, 0 + j * 1, none⟩)) := aIndexAddr_slice ty34 rfl ty3 hj
            obtain ⟨hyo1, hyo2⟩ := hxo.nums_ok y (List.mem_of_getElem? hy)
            have f1 : ∀ z : Int, (if z > 0 then z else 0) = ((z.toNat : Nat) : Int) := by intro z; split <;> omega
            have f2 : y.toNat % 18446744073709551616 = y.toNat := Nat.mod_eq_of_lt (by omega)
            have hnum' := pur10_39 (x := y.toNat) (by omega)
            have f3 : IntKind.i64.wrap ((j : Int) + 1) = ((j + 1 : Nat) : Int) := by rw [wrap_i64 (by omega) (by omega)]; simp
            have hlen : (noteHead ns i ++ num x.number ++ (x.nums.take j).flatMap fun y => num y.toNat).length ≤ 300000 := by
              have g1 := noteHead_length (i := i) hl
              have g2 := num_length x.number
              have g3 : ∀ l : List Int, (l.flatMap fun y => num y.toNat).length ≤ 10 * l.length := by
                intro l
                induction l with
                | nil => simp
                | cons z l ih =>
                  have := num_length z.toNat
                  simp only [List.flatMap_cons, List.length_append, List.length_cons]
                  omega
              have g4 := g3 (x.nums.take j)
              have g5 : (x.nums.take j).length ≤ 6 := by simp [hcl]; omega
              simp only [List.length_append]
              omega
            have ha2 : aBin E.ty E.eqOk .add 9 (str (noteHead ns i ++ num x.number ++ (x.nums.take j).flatMap fun y => num y.toNat)) (str (num y.toNat)) =
                some (str (noteHead ns i ++ num x.number ++ (x.nums.take (j + 1)).flatMap fun y => num y.toNat)) := by
              have := num_length y.toNat
              rw [str_add _ _ (by omega)]
              rw [List.take_add_one, hy, List.flatMap_append]
              simp [List.append_assoc]
            simp (maxDischargeDepth := 40) only [Nat.reduceEqDiff, Nat.reduceLT, WK_skip, WK_seq, WK_cond, WK_block, WK_region, WLK_nil, WLK_cons, app_seq_normal, app_block_normal, app_inv_normal, ne_eq, not_true_eq_false, List.head?_cons, isAggD, aLoad, List.cons_append, Nat.zero_add, Option.some.injEq, aConvert, AH.load, want, dstOk, opR, opE, opC, ev, evs, put_n, put_tmps, put_defers, selfRel, aNilNil, nilC_tmp, nilC_int, opCallR, ↓bind_match, ↓reduceIte, Bool.false_eq_true, decide_true, Bool.or_self, Bool.false_eq_true, true_and, List.cons_append, List.nil_append, body12_0, aBin_int, intBin, ty3, ty30, foldInt, maxInt, hn', hd', h3', h12', h13', h14', h5', h35', h36', h37', d1, e3, hC', s1, s2, Nat.mul_one, f1, f2, f3, wrap_u64, fn39, ex39, hnum', ha2]
            exact ⟨k - 1, by omega, j + 1, by omega, rfl, rfl, hB', hnx', hK'⟩
          · have d1 : decide ((j : Int) < 6) = false := by simp; omega
            have hj6 : j = 6 := by omega
            subst hj6
            have ht6 : x.nums.take 6 = x.nums := List.take_of_length_le (by rw [hcl]; exact Nat.le_refl _)
            rw [ht6] at h3'
            have hlen : (noteHead ns i ++ num x.number ++ x.nums.flatMap fun y => num y.toNat).length ≤ 300000 := by
              have g1 := noteHead_length (i := i) hl
              have g4 := x.text_length
              unfold NoteV.text at g4
              simp only [List.length_append] at g4 ⊢
              omega
            have hh := x.health_le
            have hh2 := pur10_42 hxo
            have hh3 := pur10_41 x.health
            rw [x.health_text] at hh3
            have hh4 := pur10_40 (x := x.health) (n := 8) (by simp only [fOne] at hh; omega) (by decide)
            have k8 : (((8 : Nat) : Int)) = 8 := rfl
            rw [k8] at hh4
            have hle8 := leL_length 8 x.health
            have f3 : IntKind.i64.wrap ((i : Int) + 1) = ((i + 1 : Nat) : Int) := by rw [wrap_i64 (by omega) (by omega)]; simp
            have hnext : noteHead ns (i + 1) = noteHead ns i ++ x.text := by
              unfold noteHead
              rw [List.take_add_one, hx, List.flatMap_append]
              simp [List.append_assoc]
            have fin : ∀ c : UInt8, c = (if x.whole then 1 else 0) → str (noteHead ns i ++ num x.number ++ (x.nums.flatMap fun y => num y.toNat) ++ [c] ++ leL 8 x.health) = str (noteHead ns (i + 1)) := by
              intro c hc
              rw [hnext, hc]
              unfold NoteV.text
              simp [List.append_assoc]
            have ha3 : ∀ c : UInt8, aBin E.ty E.eqOk .add 9 (str (noteHead ns i ++ num x.number ++ x.nums.flatMap fun y => num y.toNat)) (str [c]) =
                some (str (noteHead ns i ++ num x.number ++ (x.nums.flatMap fun y => num y.toNat) ++ [c])) := fun c => str_add _ _ (by simp only [List.length_cons, List.length_nil]; omega)
            have ha4 : ∀ c : UInt8, aBin E.ty E.eqOk .add 9 (str (noteHead ns i ++ num x.number ++ (x.nums.flatMap fun y => num y.toNat) ++ [c])) (str (leL 8 x.health)) =
                some (str (noteHead ns i ++ num x.number ++ (x.nums.flatMap fun y => num y.toNat) ++ [c] ++ leL 8 x.health)) := by
              intro c
              refine str_add _ _ ?_
              rw [List.length_append]
              simp only [List.length_cons, List.length_nil]
              omega
            simp only [NoteV.val, NoteV.cells] at hh2
            cases hwh : x.whole
            · rw [hwh] at hB' hh2
              simp (maxDischargeDepth := 40) only [Nat.reduceEqDiff, Nat.reduceLT, Nat.reduceAdd, Nat.le_refl, WK_exit, WK_seq, WK_cond, WK_region, WLK_nil, WLK_cons, app_seq_normal, app_seq_exit, app_block_normal, app_block_exit, app_inv_normal, app_inv_exit, ne_eq, not_true_eq_false, List.take_succ_cons, List.drop_succ_cons, List.head?_cons, isAggD, aFieldAddr, aLoad, List.cons_append, List.take_zero, List.drop_zero, List.length_cons, List.length_nil, Nat.zero_add, selfRel_str, Option.some.injEq, AH.load, Nat.succ_ne_self, want, dstOk, opR, opE, opC, ev, evs, put_n, put_tmps, put_defers, selfRel, aNilNil, nilC_tmp, nilC_int, nilC_str, opCallR, ↓bind_match, ↓map_match, ↓reduceIte, Bool.false_eq_true, decide_true, Bool.or_self, Bool.false_eq_true, true_and, List.getElem?_toArray, List.getElem?_cons_zero, List.getElem?_cons_succ, List.cons_append, List.nil_append, body12_0, aBin_int, intBin, ty4, ty33, hn', hd', h3', h12', h13', h14', h5', h36', h37', d1, hB', f3, fn42, ex42, fn41, ex41, fn40, ex40, hh2, hh3, hh4, ha3, ha4]
              exact ⟨m - 1, by omega, i + 1, by omega, fin 0 (by simp [hwh]), rfl, hK'⟩
            · rw [hwh] at hB' hh2
              simp (maxDischargeDepth := 40) only [Nat.reduceEqDiff, Nat.reduceLT, Nat.reduceAdd, Nat.le_refl, WK_exit, WK_seq, WK_cond, WK_region, WLK_nil, WLK_cons, app_seq_normal, app_seq_exit, app_block_normal, app_block_exit, app_inv_normal, app_inv_exit, ne_eq, not_true_eq_false, List.take_succ_cons, List.drop_succ_cons, List.head?_cons, isAggD, aFieldAddr, aLoad, List.cons_append, List.take_zero, List.drop_zero, List.length_cons, List.length_nil, Nat.zero_add, selfRel_str, Option.some.injEq, AH.load, Nat.succ_ne_self, want, dstOk, opR, opE, opC, ev, evs, put_n, put_tmps, put_defers, selfRel, aNilNil, nilC_tmp, nilC_int, nilC_str, opCallR, ↓bind_match, ↓map_match, ↓reduceIte, Bool.false_eq_true, decide_true, Bool.or_self, Bool.false_eq_true, true_and, List.getElem?_toArray, List.getElem?_cons_zero, List.getElem?_cons_succ, List.cons_append, List.nil_append, body12_0, aBin_int, intBin, ty4, ty33, hn', hd', h3', h12', h13', h14', h5', h36', h37', d1, hB', f3, fn42, ex42, fn41, ex41, fn40, ex40, hh2, hh3, hh4, ha3, ha4]
              exact ⟨m - 1, by omega, i + 1, by omega, fin 1 (by simp [hwh]), rfl, hK'⟩
    · have d0 : decide ((i : Int) < (ns.length : Int)) = false := by simp; omega
      have hii : i = ns.length := by omega
      have ht : noteHead ns i = notesText ns := by simp [noteHead, notesText, hii]
      simp (maxDischargeDepth := 40) only [Nat.reduceEqDiff, Nat.reduceLT, WK_exit, WK_ret, WK_seq, WK_cond, WK_region, WLK_nil, WLK_cons, app_fin, app_seq_normal, app_seq_exit, app_block_exit, app_inv_exit, ne_eq, not_true_eq_false, Option.some.injEq, exists_eq_left', str_def, want, dstOk, opR, ev, put_n, put_tmps, put_defers, aNilNil, nilC_tmp, ↓bind_match, ↓reduceIte, Bool.false_eq_true, decide_true, Bool.or_self, Bool.false_eq_true, and_true, ABody, aResults, aResult, tupleOf, body12_1, aBin_int, intBin, hn, hd, h3, h13, h14, d0, ht, hK, rs12]

end Go.Am.Q

/- The document's notes, read: what comes of them. -/
set_option linter.unusedSimpArgs false
set_option linter.unusedSectionVars false
set_option maxRecDepth 20000
namespace Go.Am.Q
open Go Go.Am Go.Proofs
variable [F : Fr]

abbrev most40 : Nat := 1099511627776

theorem getR_stop {r : RdV} (h : r.e ≠ 0) (n : Nat) : getR r n = (r, 0) := by simp [getR, takeR, h, leB]

theorem varL_err : ∀ (k i x : Nat) (r : RdV), 0 < k → i + k = 10 → (varL k i x r).1.e ≠ 0 → (varL k i x r).2 = 0 := by
  intro k
  induction k with
  | zero => intro i x r h; omega
  | succ k ih =>
    intro i x r _ hi
    have hb := getR1_lt r
    rw [varL]
    generalize getR r 1 = g at hb
    obtain ⟨q, b⟩ := g
    simp only at hb ⊢
    split
    · intro _; rfl
    · split
      · intro _; rfl
      · rename_i hq h9
        split
        · exact ih _ _ _ (by omega) (by omega)
        · split
          · intro _; rfl
          · intro h; simp only at h; omega

theorem varR_err {r : RdV} (h : (varR r).1.e ≠ 0) : (varR r).2 = 0 := varL_err 10 0 0 r (by decide) rfl h

theorem numberR_le {r : RdV} (most : Nat) : (numberR r most).2 ≤ most := by
  unfold numberR
  split
  · exact Nat.zero_le _
  · rename_i h
    by_cases he : (varR r).1.e = 0
    · omega
    · rw [varR_err he]; exact Nat.zero_le _

/-- So many numbers. -/
def numsP : Nat → RdV → RdV × List Nat
  | 0, r => (r, [])
  | j + 1, r => ((numberR (numsP j r).1 most40).1, (numsP j r).2 ++ [(numberR (numsP j r).1 most40).2])

theorem numsP_ok {r : RdV} (hr : r.Ok) : ∀ j, (numsP j r).1.Ok ∧ (numsP j r).2.length = j ∧ ∀ x ∈ (numsP j r).2, x ≤ most40 := by
  intro j
  induction j with
  | zero => exact ⟨hr, rfl, by simp [numsP]⟩
  | succ j ih =>
    obtain ⟨h1, h2, h3⟩ := ih
    refine ⟨(numberR_ok h1 _).1, by simp [numsP, h2], ?_⟩
    intro x hx
    simp only [numsP, List.mem_append, List.mem_singleton] at hx
    rcases hx with hx | rfl
    · exact h3 x hx
    · exact numberR_le _

def noteOf (number : Nat) (l : List Nat) (whole : Nat) : NoteV :=
  ⟨number, (l.getD 0 0 : Nat), (l.getD 1 0 : Nat), (l.getD 2 0 : Nat), (l.getD 3 0 : Nat), (l.getD 4 0 : Nat), (l.getD 5 0 : Nat), whole == 1⟩

theorem noteOf_ok {number whole : Nat} {l : List Nat} (h1 : number ≤ most40) (h2 : ∀ x ∈ l, x ≤ most40) : (noteOf number l whole).Ok := by
  have key : ∀ i, i64ok ((l.getD i 0 : Nat) : Int) := by
    intro i
    have : l.getD i 0 ≤ most40 := by
      rw [List.getD_eq_getElem?_getD]
      cases hi : l[i]? with
      | none => simp
      | some x => exact h2 x (List.mem_of_getElem? hi)
    simp only [most40] at this
    unfold i64ok
    omega
  simp only [most40] at h1
  exact ⟨by simp only [noteOf]; omega, key 0, key 1, key 2, key 3, key 4, key 5⟩

/-- The reader behind the sign that tells whether it is whole. -/
def wholeR (r : RdV) : RdV := if (getR r 1).1.e = 0 ∧ 1 < (getR r 1).2 then failR (getR r 1).1 4 else (getR r 1).1

def noteR (r : RdV) : RdV × NoteV :=
  let a := numberR r most40
  let p := numsP 6 a.1
  let n := noteOf a.2 p.2 (getR p.1 1).2
  let f := fltR (wholeR p.1)
  (if f.1.e = 0 ∧ textB f.2 ≠ n.health then failR f.1 4 else f.1, n)

theorem wholeR_ok {r : RdV} (hr : r.Ok) : (wholeR r).Ok := by
  have := getR_ok hr 1
  unfold wholeR
  split
  · exact failR_ok this (by decide)
  · exact this

theorem noteR_ok {r : RdV} (hr : r.Ok) : (noteR r).1.Ok ∧ (noteR r).2.Ok := by
  have h1 := numberR_ok hr most40
  have h2 := numsP_ok h1.1 6
  have h3 := fltR_ok (wholeR_ok h2.1)
  refine ⟨?_, noteOf_ok (numberR_le _) h2.2.2⟩
  simp only [noteR]
  split
  · exact failR_ok h3.1 (by decide)
  · exact h3.1

def notesR : Nat → RdV → List NoteV → RdV × List NoteV
  | 0, r, acc => (r, acc)
  | k + 1, r, acc => if (noteR r).1.e ≠ 0 then ((noteR r).1, []) else notesR k (noteR r).1 (acc ++ [(noteR r).2])

def getNR (r : RdV) : RdV × List NoteV := notesR (numberR r 65536).2 (numberR r 65536).1 []

def L10 : PureF := fun g args =>
  match g, args with
  | 43, [v, .int .u64 (.ofNat m)] => (rdArgs v).bind fun r => if r.Ok then some (.tuple #[(numberR r m).1.val, .int .u64 (numberR r m).2]) else none
  | _, _ => none

theorem L10_ok : PureOk P L10 := by
  intro g args v h
  unfold L10 at h
  split at h <;> try (cases h; done)
  rw [Option.bind_eq_some_iff] at h
  obtain ⟨r, hr, h⟩ := h
  split at h <;> cases h
  rename_i hc
  rw [rdArgs_val hr]
  exact p43 hc

def pur11 : PureF := altP pur10 L10
theorem pur11_ok : PureOk P pur11 := altP_ok pur10_ok L10_ok

theorem pur11_43 {r : RdV} {m : Nat} (hr : r.Ok) : pur11 43 [r.val, .int .u64 (m : Int)] = some (.tuple #[(numberR r m).1.val, .int .u64 (numberR r m).2]) := by
  have : pur11 43 [r.val, .int .u64 (m : Int)] = if r.Ok then some (.tuple #[(numberR r m).1.val, .int .u64 (numberR r m).2]) else none := rfl
  rw [this, if_pos hr]
theorem pur11_44 {r : RdV} {n : Nat} (hr : r.Ok) (hn : n ≤ 8) : pur11 44 [r.val, .int .i64 (n : Int)] = some (.tuple #[(getR r n).1.val, .int .u64 (getR r n).2]) := altP_left (altP_left (pur9_44 hr hn))
theorem pur11_45 {r : RdV} {e : Nat} : pur11 45 [r.val, .int .i64 (e : Int)] = some (failR r e).val := rfl
theorem pur11_46 {r : RdV} (hr : r.Ok) : pur11 46 [r.val] = some (.tuple #[(fltR r).1.val, .float .f64 (fltR r).2]) := altP_left (altP_left (pur9_46 hr))
theorem pur11_41 (b : Nat) : pur11 41 [.float .f64 b] = some (.int .u64 (textB b)) := rfl
theorem pur11_42 {n : NoteV} (hn : n.Ok) : pur11 42 [n.val] = some (.float .f64 n.health) := altP_left (pur10_42 hn)

end Go.Am.Q
