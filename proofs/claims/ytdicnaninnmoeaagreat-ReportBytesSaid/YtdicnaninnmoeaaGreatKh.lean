/- What a buffer's growing computes; report.Put. -/
import Derived.Test.YtdicnaninnmoeaaGreatKg
import Derived.Test.YtdicnaninnmoeaaGreatKe
import Derived.Test.YtdicnaninnmoeaaGreatKf
set_option linter.unusedSectionVars false
set_option linter.unusedSimpArgs false
set_option linter.unusedVariables false
set_option linter.unnecessarySimpa false
/- Bytes that grow. -/
set_option linter.unusedSimpArgs false
set_option linter.unusedSectionVars false
set_option maxRecDepth 20000
namespace Go.Am.Q
open Go Go.Am Go.Proofs
variable [F : Fr]

/-- A buffer, and what is in it. -/
def BufAt (lo : Nat) (H : AH) (wb : Nat) (l : List UInt8) : Prop :=
  wb < H.next ∧ ∃ v, H.get wb = some (.cells [v] 26) ∧ ((v = .slice none 0 0 ∧ l = []) ∨ ∃ b, v = .slice (some ⟨b, 0, none⟩) l.length unk ∧ H.get b = some (.cells (u8s l) 5) ∧ b < H.next ∧ lo ≤ b)

/-- What a buffer's growing keeps. -/
def BKeep (lo wb : Nat) (H H' : AH) : Prop := H.next ≤ H'.next ∧ ∀ b, b < H.next → b ≠ wb → (lo ≤ b → ∀ cs, H.get b ≠ some (.cells cs 5)) → H'.get b = H.get b

theorem BKeep.refl (lo wb : Nat) (H : AH) : BKeep lo wb H H := ⟨Nat.le_refl _, fun _ _ _ _ => rfl⟩

theorem BKeep.trans {lo wb : Nat} {H H' H'' : AH} (h : BKeep lo wb H H') (h' : BKeep lo wb H' H'') : BKeep lo wb H H'' := by
  refine ⟨Nat.le_trans h.1 h'.1, fun b hb hw hc => ?_⟩
  have e := h.2 b hb hw hc
  rw [h'.2 b (Nat.lt_of_lt_of_le hb h.1) hw (by rw [e]; exact hc), e]

theorem BKeep.of {lo wb : Nat} {H H' : AH} (h : Keep H H') : BKeep lo wb H H' := ⟨h.1, fun b hb _ _ => h.2 b hb⟩

/-- What has another kind of cells is kept. -/
theorem BKeep.get {lo wb : Nat} {H H' : AH} (h : BKeep lo wb H H') {b : Nat} {cs : List Value} {e : TypeId} (hb : H.get b = some (.cells cs e)) (hl : b < H.next) (h5 : e ≠ 5) (h26 : b ≠ wb) :
    H'.get b = some (.cells cs e) := by
  rw [h.2 b hl h26 fun _ cs' hc => by rw [hb] at hc; cases hc; exact h5 rfl]
  exact hb

def BufR (lo : Nat) (H : AH) (wb : Nat) (l : List UInt8) (v : Value) : Ending → AH → Prop := fun en H' => en = .returned v ∧ BufAt lo H' wb l ∧ BKeep lo wb H H'

section
variable {pur : PureF} {pls : Plans} {k : Kont} {a : AAct} {H : AH} {g : FuncId} {args : List Value} {ops : Array Oper} {d : Option Tmp}

theorem CallK_buf {lo wb : Nat} {l : List UInt8} {v : Value} {rest : List Oper} (h : ACalls P g args H (BufR lo H wb l v))
    (hk : ∀ H', BufAt lo H' wb l → BKeep lo wb H H' → WLK E (fnOf P) pur pls ops k rest (a.put d v) H') : CallK E (fnOf P) pur pls g args H ops k rest a d := by
  refine CallK_of h (fun v H' hR => ?_) (fun ch H' hR => by cases hR.1) (fun H' hR => by cases hR.1)
  obtain ⟨h1, h2, h3⟩ := hR
  cases h1
  exact hk H' h2 h3
end

theorem wrap8 (n : Nat) : IntKind.u8.wrap (n : Int) = (((UInt8.ofNat n).toNat : Nat) : Int) := by
  rw [wrap_u8]
  simp

theorem bs23_1 (H : AH) (x : Int) : aBuildSlice E.ty H 23 1 #[(0, .int .u8 x)] = some (.slice (some ⟨H.next, 0, none⟩) 1 1, H.push (.cells [.int .u8 x] 5)) :=
  aBuildSlice_one ty23 rfl ty5 rfl rfl rfl

theorem ap23_nil (H : AH) (x : Value) : aAppend E.ty (H.push (.cells [x] 5)) 23 23 (.slice none 0 0) (.slice (some ⟨H.next, 0, none⟩) 1 1) =
    some (.slice (some ⟨H.next + 1, 0, none⟩) 1 unk, (H.push (.cells [x] 5)).push (.cells [x] 5)) := by
  have hx : (H.push (.cells [x] 5)).load H.next 0 (1 * 1) = some [x] := by
    simp only [AH.load, AH.get_push_same]
    rfl
  exact aAppend_nil ty23 rfl ty5 (by decide) (by decide) (by decide) hx (by decide) (by decide)

theorem ap23_own (H : AH) (x : Value) (cs : List Value) (b len : Nat) (hb : H.get b = some (.cells cs 5)) (hn : b ≠ H.next) (hl : cs.length = len) (hk : len + 1 ≤ 4294967296) :
    aAppend E.ty (H.push (.cells [x] 5)) 23 23 (.slice (some ⟨b, 0, none⟩) len unk) (.slice (some ⟨H.next, 0, none⟩) 1 1) =
    some (.slice (some ⟨H.next + 1, 0, none⟩) (len + 1) unk, ((H.push (.cells [x] 5)).set b none).push (.cells (cs ++ [x]) 5)) := by
  have hx : (H.push (.cells [x] 5)).load H.next 0 (1 * 1) = some [x] := by
    simp only [AH.load, AH.get_push_same]
    rfl
  have hb' : (H.push (.cells [x] 5)).get b = some (.cells cs 5) := by rw [AH.get_push_ne _ _ _ hn]; exact hb
  exact aAppend_own ty23 rfl ty5 (by decide) (by decide) (by decide) hx (by decide) hk hb' (by rw [hl]; exact (Nat.mul_one _).symm)

theorem shr_u64 (x k : Nat) (hk : k ≤ 64) : (x : Int).fdiv (2 ^ (min ((k : Int).toNat) IntKind.u64.bits)) = ((x / 2 ^ k : Nat) : Int) := by
  have hb64 : IntKind.u64.bits = 64 := rfl
  rw [hb64, Int.toNat_natCast, Nat.min_eq_left hk]
  have : (2 : Int) ^ k = ((2 ^ k : Nat) : Int) := by simp
  rw [this, Int.fdiv_eq_ediv_of_nonneg _ (Int.natCast_nonneg _)]
  rfl

theorem bnum_walk {lo wb : Nat} {H0 : AH} {l : List UInt8} (h : BufAt lo H0 wb l) {x n : Nat} (hx : x < 18446744073709551616) (hn : n ≤ 8) (hl : l.length ≤ 1000000) (hlo : lo ≤ H0.next) :
    ACalls P 60 [ptr wb, .int .u64 x, .int .i64 n] H0 (BufR lo H0 wb (l ++ leL n x) (ptr wb)) := by
  refine ACalls_K E (fnOf_ok P) mixed pur0_ok fn60 ok60 sx60 (by simp [nt60]) ?_
  simp only [nt60]
  simp (maxDischargeDepth := 40) only [Nat.reduceEqDiff, Nat.reduceLT, reduceCtorEq, Nat.reduceAdd, WK_seq, WK_block, WK_loop, WK_region, WLK_nil, WLK_cons, app_seq_normal, Nat.zero_add, Nat.succ_ne_self, want, dstOk, opR, ev, entry, argT, put_n, put_tmps, selfRel, ↓reduceIte, decide_true, true_and, code60]
  refine ⟨fun m a H => ∃ i, i + m = n ∧ a.n = 25 ∧ a.defers = [] ∧ a.tmps 0 = some (ptr wb) ∧ a.tmps 1 = some (.int .u64 ((x / 256 ^ i : Nat) : Int)) ∧ a.tmps 7 = some (.int .i64 n) ∧
    a.tmps 8 = some (.int .i64 i) ∧ BufAt lo H wb (l ++ leL i x) ∧ BKeep lo wb H0 H, n, ?_, ?_⟩
  · refine ⟨0, by omega, ?_⟩
    simp (maxDischargeDepth := 40) only [Nat.reduceEqDiff, reduceCtorEq, Option.some.injEq, Nat.succ_ne_self, put_n, put_tmps, put_defers, ↓reduceIte, true_and, leL, List.append_nil, Nat.pow_zero, Nat.div_one]
    exact ⟨rfl, h, BKeep.refl _ _ _⟩
  · rintro m a H ⟨i, him, hn', hd, t0, t1, t7, t8, hbuf, hK⟩
    by_cases hi : i < n
    · have d1 : decide ((i : Int) < (n : Int)) = true := by simp; omega
      have f3 : IntKind.i64.wrap ((i : Int) + 1) = ((i + 1 : Nat) : Int) := by rw [wrap_i64 (by omega) (by omega)]; simp
      have f4 := shr_u64 (x / 256 ^ i) 8 (by decide)
      have f5 : ¬ ((8 : Int) < 0) := by decide
      have k8 : ((8 : Nat) : Int) = 8 := rfl
      rw [k8] at f4
      have f6 : x / 256 ^ i / 2 ^ 8 = x / 256 ^ (i + 1) := by rw [show (2 : Nat) ^ 8 = 256 from rfl, Nat.div_div_eq_div_mul, Nat.pow_succ]
      rw [f6] at f4
      have hll : (leL i x).length = i := leL_length i x
      have hsn := leL_snoc i x
      have hkk := hK.1
      obtain ⟨hw, v, hv, hc⟩ := hbuf
      have hwn : ¬ wb = H.next := by omega
      have hwn2 : ¬ wb = H.next + 1 := by omega
      rcases hc with ⟨rfl, hz⟩ | ⟨b, rfl, hb, hbl, hbo⟩
      · have hap := ap23_nil H (.int .u8 (((UInt8.ofNat (x / 256 ^ i)).toNat : Nat) : Int))
        simp (maxDischargeDepth := 40) only [Nat.reduceEqDiff, Nat.reduceLT, reduceCtorEq, Nat.le_refl, WK_skip, WK_seq, WK_cond, WK_block, WK_region, WLK_nil, WLK_cons, app_seq_normal, app_block_normal, app_inv_normal, ne_eq, not_true_eq_false, List.take_succ_cons, List.drop_succ_cons, List.head?_cons, isAggD, List.all_cons, List.all_nil, oc_slice, cells_slice, Bool.and_self, aFieldAddr, aLoad, aStore, List.cons_append, List.take_zero, List.drop_zero, List.length_cons, List.length_nil, Nat.zero_add, Option.some.injEq, aConvert, AH.load, AH.store, splice, AH.get_push, AH.next_push, Nat.succ_ne_self, want, dstOk, opR, opE, ev, evs, evParts, put_n, put_tmps, put_none, put_defers, selfRel, aNilNil, nilC_tmp, nilC_int, opCallR, ↓bind_match, ↓map_match, ↓reduceIte, Bool.false_eq_true, decide_true, Bool.or_self, Bool.false_eq_true, true_and, and_true, List.toList_toArray, List.size_toArray, List.getElem?_toArray, List.getElem?_cons_zero, List.cons_append, List.nil_append, body60_0, aBin_int, intBin, ty5, ty23, ty26, ty30, hn', hd, t0, t1, t7, t8, d1, hv, wrap8, bs23_1, hap, f3, f4, f5, hwn, hwn2]
        refine ⟨m - 1, by omega, i + 1, by omega, rfl, rfl, ?_, ?_⟩
        · refine ⟨by simp only [AH.next_set, AH.next_push]; omega, .slice (some ⟨H.next + 1, 0, none⟩) 1 unk, AH.get_set_same _ _ _, .inr ⟨H.next + 1, ?_, ?_, ?_, ?_⟩⟩
          · rw [hsn, ← List.append_assoc, hz]; rfl
          · rw [AH.get_set_ne _ _ _ _ (by omega), hsn, ← List.append_assoc, hz]
            exact AH.get_push_same _ _
          · simp only [AH.next_set, AH.next_push]; omega
          · omega
        · refine hK.trans ⟨by simp only [AH.next_set, AH.next_push]; omega, fun c hc1 hc2 _ => ?_⟩
          rw [AH.get_set_ne _ _ _ _ hc2, AH.get_push_ne _ _ _ (by simp only [AH.next_push]; omega), AH.get_push_ne _ _ _ (by omega)]
      · have hwb : b ≠ wb := by rintro rfl; rw [hv] at hb; injection hb with hb; injection hb with _ he; exact absurd he (by decide)
        have hap := ap23_own H (.int .u8 (((UInt8.ofNat (x / 256 ^ i)).toNat : Nat) : Int)) _ b _ hb (by omega) (u8s_length _) (by simp only [List.length_append]; omega)
        have hwb' : ¬ wb = b := fun e => hwb e.symm
        simp (maxDischargeDepth := 40) only [Nat.reduceEqDiff, Nat.reduceLT, reduceCtorEq, Nat.le_refl, WK_skip, WK_seq, WK_cond, WK_block, WK_region, WLK_nil, WLK_cons, app_seq_normal, app_block_normal, app_inv_normal, ne_eq, not_true_eq_false, List.take_succ_cons, List.drop_succ_cons, List.head?_cons, isAggD, List.all_cons, List.all_nil, oc_slice, cells_slice, Bool.and_self, aFieldAddr, aLoad, aStore, List.cons_append, List.take_zero, List.drop_zero, List.length_cons, List.length_nil, Nat.zero_add, Option.some.injEq, aConvert, AH.load, AH.store, splice, AH.get_push, AH.get_set, AH.next_push, AH.next_set, Nat.succ_ne_self, want, dstOk, opR, opE, ev, evs, evParts, put_n, put_tmps, put_none, put_defers, selfRel, aNilNil, nilC_tmp, nilC_int, opCallR, ↓bind_match, ↓map_match, ↓reduceIte, Bool.false_eq_true, decide_true, Bool.or_self, Bool.false_eq_true, true_and, and_true, List.toList_toArray, List.size_toArray, List.getElem?_toArray, List.getElem?_cons_zero, List.cons_append, List.nil_append, body60_0, aBin_int, intBin, ty5, ty23, ty26, ty30, hn', hd, t0, t1, t7, t8, d1, hv, wrap8, bs23_1, hap, f3, f4, f5, hwn, hwn2, hwb']
        refine ⟨m - 1, by omega, i + 1, by omega, rfl, rfl, ?_, ?_⟩
        · refine ⟨by simp only [AH.next_set, AH.next_push]; omega, .slice (some ⟨H.next + 1, 0, none⟩) ((l ++ leL i x).length + 1) unk, AH.get_set_same _ _ _, .inr ⟨H.next + 1, ?_, ?_, ?_, ?_⟩⟩
          · rw [hsn, ← List.append_assoc]; simp only [List.length_append, List.length_cons, List.length_nil]
          · rw [AH.get_set_ne _ _ _ _ (by omega), hsn, ← List.append_assoc, u8s_append (l ++ leL i x)]
            exact AH.get_push_same _ _
          · simp only [AH.next_set, AH.next_push]; omega
          · omega
        · refine hK.trans ⟨by simp only [AH.next_set, AH.next_push]; omega, fun c hc1 hc2 hc3 => ?_⟩
          have hcb : c ≠ b := by rintro rfl; exact hc3 hbo _ hb
          rw [AH.get_set_ne _ _ _ _ hc2, AH.get_push_ne _ _ _ (by simp only [AH.next_set, AH.next_push]; omega), AH.get_set_ne _ _ _ _ hcb, AH.get_push_ne _ _ _ (by omega)]
    · have d1 : decide ((i : Int) < (n : Int)) = false := by simp; omega
      have hin : i = n := by omega
      subst hin
      simp (maxDischargeDepth := 40) only [Nat.reduceLT, reduceCtorEq, WK_exit, WK_ret, WK_seq, WK_cond, WK_region, WLK_nil, WLK_cons, app_fin, app_seq_normal, app_seq_exit, app_block_exit, app_inv_exit, ne_eq, not_true_eq_false, Option.some.injEq, exists_eq_left', want, dstOk, opR, ev, put_n, put_tmps, put_defers, aNilNil, nilC_tmp, ↓bind_match, ↓reduceIte, Bool.false_eq_true, decide_true, Bool.or_self, Bool.false_eq_true, true_and, ABody, aResults, aResult, tupleOf, body60_0, rs60, aBin_int, intBin, hn', hd, t0, t7, t8, d1]
      exact ⟨rfl, hbuf, hK⟩

end Go.Am.Q

/- Bytes that grow: numbers. -/
set_option linter.unusedSimpArgs false
set_option linter.unusedSectionVars false
set_option maxRecDepth 20000
namespace Go.Am.Q
open Go Go.Am Go.Proofs
variable [F : Fr]

theorem leL_one {x : Nat} (h : x < 256) : leL 1 x = [UInt8.ofNat x] := by
  have := leL_snoc 0 x
  simpa [leL] using this

theorem bbyte_walk {lo wb : Nat} {H0 : AH} {l : List UInt8} (h : BufAt lo H0 wb l) {x : Nat} (hx : x < 256) (hl : l.length ≤ 1000000) (hlo : lo ≤ H0.next) :
    ACalls P 29 [ptr wb, .int .u8 x] H0 (BufR lo H0 wb (l ++ [UInt8.ofNat x]) (ptr wb)) := by
  refine ACalls_K E (fnOf_ok P) mixed pur0_ok fn29 ok29 sx29 (by simp [nt29]) ?_
  simp only [nt29]
  have hw : IntKind.u64.wrap (x : Int) = (x : Int) := by rw [wrap_u64, Nat.mod_eq_of_lt (by omega)]
  have hb := bnum_walk h (x := x) (n := 1) (by omega) (by decide) hl hlo
  rw [leL_one hx] at hb
  simp (maxDischargeDepth := 40) only [Nat.reduceEqDiff, Nat.reduceLT, reduceCtorEq, WK_seq, WK_region, WLK_nil, WLK_cons, app_seq_normal, List.cons_append, Nat.zero_add, aConvert, Nat.succ_ne_self, want, dstOk, opR, opE, opC, ev, evs, entry, argT, put_n, put_tmps, selfRel, opCallR, ↓bind_match, ↓reduceIte, decide_true, true_and, List.cons_append, List.nil_append, code29, pur0, ty5, ty30, hw, fn60, ex60]
  refine CallK_buf hb (fun H' h1 h2 => ?_)
  simp (maxDischargeDepth := 40) only [Nat.reduceLT, WK_ret, WLK_nil, WLK_cons, app_fin, app_seq_normal, Option.some.injEq, exists_eq_left', want, dstOk, opR, ev, put_n, put_tmps, put_defers, ↓reduceIte, decide_true, true_and, ABody, aResults, aResult, tupleOf, rs29]
  exact ⟨rfl, h1, h2⟩

theorem beight_walk {lo wb : Nat} {H0 : AH} {l : List UInt8} (h : BufAt lo H0 wb l) {x : Nat} (hx : x < 18446744073709551616) (hl : l.length ≤ 1000000) (hlo : lo ≤ H0.next) :
    ACalls P 61 [ptr wb, .int .u64 x] H0 (BufR lo H0 wb (l ++ leL 8 x) (ptr wb)) := by
  refine ACalls_K E (fnOf_ok P) mixed pur0_ok fn61 ok61 sx61 (by simp [nt61]) ?_
  simp only [nt61]
  simp (maxDischargeDepth := 40) only [Nat.reduceEqDiff, Nat.reduceLT, reduceCtorEq, WK_seq, WK_region, WLK_nil, WLK_cons, app_seq_normal, List.cons_append, Nat.zero_add, Nat.succ_ne_self, want, dstOk, opR, opE, opC, ev, evs, entry, argT, put_n, put_tmps, selfRel, opCallR, ↓bind_match, ↓reduceIte, decide_true, true_and, List.cons_append, List.nil_append, code61, pur0, fn60, ex60]
  refine CallK_buf (bnum_walk h hx (by decide) hl hlo) (fun H' h1 h2 => ?_)
  simp (maxDischargeDepth := 40) only [Nat.reduceLT, WK_ret, WLK_nil, WLK_cons, app_fin, app_seq_normal, Option.some.injEq, exists_eq_left', want, dstOk, opR, ev, put_n, put_tmps, put_defers, ↓reduceIte, decide_true, true_and, ABody, aResults, aResult, tupleOf, rs61]
  exact ⟨rfl, h1, h2⟩

theorem BufAt.bytes {lo wb : Nat} {H : AH} {l : List UInt8} (h : BufAt lo H wb l) : ∃ v, H.get wb = some (.cells [v] 26) ∧ BytesV H v l := by
  obtain ⟨h1, v, h2, h3⟩ := h
  refine ⟨v, h2, ?_⟩
  rcases h3 with h | ⟨b, rfl, hb, hbl, hbo⟩
  · exact .inl h
  · exact .inr ⟨b, 0, unk, u8s l, rfl, .inl hb, by rw [List.drop_zero, ← u8s_length l, List.take_length], by rw [u8s_length]; omega, hbl⟩

/-- Its bytes. -/
theorem bytes_walk {lo wb : Nat} {H : AH} {l : List UInt8} (h : BufAt lo H wb l) (hl : l.length ≤ 1000000) : ACalls P 8 [ptr wb] H fun en H' => ∃ v', en = .returned v' ∧ Keep H H' ∧
    ((v' = .slice none 0 0 ∧ l = []) ∨ ∃ b cap, v' = .slice (some ⟨b, 0, none⟩) l.length cap ∧ H'.get b = some (.cells (u8s l) 5) ∧ H.next ≤ b ∧ b < H'.next) := by
  refine ACalls_K E (fnOf_ok P) mixed pur0_ok fn8 ok8 sx8 (by simp [nt8]) ?_
  simp only [nt8]
  obtain ⟨v, hv, hb⟩ := h.bytes
  generalize hR : (fun (en : Ending) (H' : AH) => ∃ v', en = .returned v' ∧ Keep H H' ∧
    ((v' = .slice none 0 0 ∧ l = []) ∨ ∃ b cap, v' = .slice (some ⟨b, 0, none⟩) l.length cap ∧ H'.get b = some (.cells (u8s l) 5) ∧ H.next ≤ b ∧ b < H'.next)) = R
  simp (maxDischargeDepth := 40) only [Nat.reduceLT, reduceCtorEq, Nat.le_refl, WK_seq, WK_region, WLK_nil, WLK_cons, app_seq_normal, List.take_succ_cons, List.head?_cons, isAggD, aFieldAddr, aLoad, List.cons_append, List.take_zero, List.drop_zero, List.length_cons, List.length_nil, Nat.zero_add, AH.load, Nat.succ_ne_self, want, dstOk, opR, opE, opC, ev, evs, entry, argT, put_n, put_tmps, selfRel, opCallR, ↓bind_match, ↓reduceIte, Bool.false_eq_true, decide_true, Bool.false_eq_true, true_and, List.getElem?_toArray, List.getElem?_cons_zero, List.cons_append, List.nil_append, code8, pur0, ty23, ty26, hv, fn31, ex31]
  refine CallK_of (clone_walk hb hl) (fun v' H' hR' => ?_) (fun ch H' h => by obtain ⟨_, h, _⟩ := h; cases h) (fun _ h => by obtain ⟨_, h, _⟩ := h; cases h)
  obtain ⟨v2, h, h2⟩ := hR'
  cases h
  simp (maxDischargeDepth := 40) only [Nat.reduceLT, WK_ret, WLK_nil, WLK_cons, app_fin, app_seq_normal, Option.some.injEq, exists_eq_left', want, dstOk, opR, ev, put_n, put_tmps, put_defers, ↓reduceIte, decide_true, true_and, ABody, aResults, aResult, tupleOf, rs8]
  rw [← hR]
  exact ⟨_, rfl, h2⟩

theorem or128 {b : Nat} : IntKind.u8.wrap ((BitVec.ofInt IntKind.u8.bits (((UInt8.ofNat b).toNat : Nat) : Int) ||| BitVec.ofInt IntKind.u8.bits 128).toNat : Int) = ((128 + b % 128 : Nat) : Int) := by
  have key : ∀ b : Fin 256, IntKind.u8.wrap ((BitVec.ofInt IntKind.u8.bits ((b : Nat) : Int) ||| BitVec.ofInt IntKind.u8.bits 128).toNat : Int) = ((128 + (b : Nat) % 128 : Nat) : Int) := by decide +kernel
  have hb : (UInt8.ofNat b).toNat = b % 256 := by simp
  have := key ⟨b % 256, Nat.mod_lt _ (by decide)⟩
  rw [hb]
  rw [this]
  simp only
  omega

/-- A number in as few bytes as can be. -/
theorem vput_walk {lo wb : Nat} {H0 : AH} {l : List UInt8} (h : BufAt lo H0 wb l) {x : Nat} (hx : x < 18446744073709551616) (hl : l.length ≤ 900000) (hlo : lo ≤ H0.next) :
    ACalls P 28 [ptr wb, .int .u64 x] H0 (BufR lo H0 wb (l ++ num x) (.tuple #[])) := by
  refine ACalls_K E (fnOf_ok P) mixed pur0_ok fn28 ok28 sx28 (by simp [nt28]) ?_
  simp only [nt28]
  have hnl := num_length x
  simp (maxDischargeDepth := 40) only [WK_seq, WK_block, WK_loop, Nat.zero_add, entry, argT, code28]
  refine ⟨fun m a H => ∃ l' y, l' ++ numB (m + 1) y = l ++ num x ∧ y < 128 ^ (m + 1) ∧ y < 18446744073709551616 ∧ a.n = 17 ∧ a.defers = [] ∧ a.tmps 0 = some (ptr wb) ∧ a.tmps 1 = some (.int .u64 y) ∧
    BufAt lo H wb l' ∧ BKeep lo wb H0 H, 9, ?_, ?_⟩
  · refine ⟨l, x, rfl, by omega, hx, ?_⟩
    simp (maxDischargeDepth := 40) only [Nat.succ_ne_self, ↓reduceIte, true_and]
    exact ⟨h, BKeep.refl _ _ _⟩
  · rintro m a H ⟨l', y, hy, hym, hy64, hn, hd, t0, t1, hbuf, hK⟩
    have hkk := hK.1
    have hll : l'.length ≤ 1000000 := by
      have := congrArg List.length hy
      simp only [List.length_append] at this
      omega
    have f1 := wrap8 y
    by_cases hc : y < 128
    · have d1 : decide ((y : Int) ≥ 128) = false := by simp; omega
      have hnb : numB (m + 1) y = [UInt8.ofNat y] := by simp [numB, hc]
      rw [hnb] at hy
      have hb := bbyte_walk hbuf (x := (UInt8.ofNat y).toNat) (UInt8.toNat_lt _) hll (by omega)
      rw [UInt8.ofNat_toNat] at hb
      simp (maxDischargeDepth := 40) only [Nat.reduceEqDiff, Nat.reduceLT, reduceCtorEq, WK_exit, WK_seq, WK_cond, WK_region, WLK_nil, WLK_cons, app_seq_normal, app_seq_exit, app_block_exit, app_inv_exit, ne_eq, not_true_eq_false, List.cons_append, aConvert, want, dstOk, opR, opE, opC, ev, evs, put_n, put_tmps, selfRel, aNilNil, nilC_tmp, nilC_int, opCallR, ↓bind_match, ↓reduceIte, Bool.false_eq_true, decide_true, Bool.or_self, Bool.false_eq_true, true_and, List.cons_append, List.nil_append, body28_0, aBin_int, intBin, ty5, ty30, hn, t0, t1, d1, f1, pur0, fn29, ex29]
      refine CallK_buf hb (fun H' h1 h2 => ?_)
      rw [hy] at h1
      simp (maxDischargeDepth := 40) only [WLK_nil, app_fin, Option.some.injEq, exists_eq_left', put_defers, true_and, ABody, aResults, tupleOf, rs28, hd]
      exact ⟨rfl, h1, hK.trans h2⟩
    · have d1 : decide ((y : Int) ≥ 128) = true := by simp; omega
      have hnb : numB (m + 1) y = UInt8.ofNat (128 + y % 128) :: numB m (y / 128) := by simp [numB, hc]
      rw [hnb] at hy
      have hb := bbyte_walk hbuf (x := 128 + y % 128) (by omega) hll (by omega)
      have f2 := or128 (b := y)
      have f4 := shr_u64 y 7 (by decide)
      have f5 : ¬ ((7 : Int) < 0) := by decide
      have k7 : ((7 : Nat) : Int) = 7 := rfl
      have k128 : (2 : Nat) ^ 7 = 128 := rfl
      rw [k7, k128] at f4
      have hm0 : m ≠ 0 := by
        rintro rfl
        simp only [Nat.zero_add, Nat.pow_one] at hym
        omega
      simp (maxDischargeDepth := 40) only [Nat.reduceEqDiff, Nat.reduceLT, reduceCtorEq, WK_skip, WK_seq, WK_cond, WK_block, WK_region, WLK_nil, WLK_cons, app_seq_normal, ne_eq, not_true_eq_false, List.cons_append, aConvert, want, dstOk, opR, opE, opC, ev, evs, put_n, put_tmps, selfRel, aNilNil, nilC_tmp, nilC_int, opCallR, ↓bind_match, ↓reduceIte, Bool.false_eq_true, decide_true, Bool.or_self, Bool.false_eq_true, true_and, List.cons_append, List.nil_append, body28_0, aBin_int, intBin, ty5, ty30, hn, t0, t1, d1, f1, f2, pur0, fn29, ex29]
      refine CallK_buf hb (fun H' h1 h2 => ?_)
      simp (maxDischargeDepth := 40) only [Nat.reduceEqDiff, Nat.reduceLT, reduceCtorEq, WK_region, WLK_nil, WLK_cons, app_seq_normal, app_block_normal, app_inv_normal, Option.some.injEq, want, dstOk, opR, ev, put_n, put_tmps, put_defers, selfRel, aNilNil, nilC_tmp, nilC_int, ↓bind_match, ↓reduceIte, Bool.false_eq_true, decide_true, Bool.or_self, Bool.false_eq_true, true_and, aBin_int, intBin, hn, hd, t0, t1, f4, f5]
      refine ⟨m - 1, by omega, _, y / 128, ?_, ?_, by omega, rfl, h1, hK.trans h2⟩
      · rw [show m - 1 + 1 = m by omega, List.append_assoc]; exact hy
      · rw [show m - 1 + 1 = m by omega]
        rw [Nat.pow_succ] at hym
        omega

/-- A number with a point. -/
theorem fput_walk {lo wb : Nat} {H0 : AH} {l : List UInt8} (h : BufAt lo H0 wb l) {x : Nat} (hx : x < 18446744073709551616) (hl : l.length ≤ 1000000) (hlo : lo ≤ H0.next) :
    ACalls P 30 [ptr wb, .float .f64 x] H0 (BufR lo H0 wb (l ++ leL 8 (textB x)) (.tuple #[])) := by
  refine ACalls_K E (fnOf_ok P) mixed L0_ok fn30 ok30 sx30 (by simp [nt30]) ?_
  simp only [nt30]
  have n62 : L0 62 [.float .f64 x] = some (.int .u64 (textB x)) := rfl
  have n61 : L0 61 [ptr wb, .int .u64 (textB x)] = none := rfl
  simp (maxDischargeDepth := 40) only [Nat.reduceEqDiff, Nat.reduceLT, WK_region, WLK_cons, List.cons_append, Nat.zero_add, Nat.succ_ne_self, want, dstOk, opR, opE, opC, ev, evs, entry, argT, put_n, put_tmps, opCallR, ↓bind_match, ↓reduceIte, decide_true, true_and, List.cons_append, List.nil_append, code30, n62, n61, fn61, ex61, fn62, ex62]
  refine CallK_buf (beight_walk h (textB_lt hx) hl hlo) (fun H' h1 h2 => ?_)
  simp (maxDischargeDepth := 40) only [WLK_nil, app_fin, Option.some.injEq, exists_eq_left', put_defers, true_and, ABody, aResults, tupleOf, rs30]
  exact ⟨rfl, h1, h2⟩

end Go.Am.Q

/- Notes, written. -/
set_option linter.unusedSimpArgs false
set_option linter.unusedSectionVars false
set_option maxRecDepth 20000
namespace Go.Am.Q
open Go Go.Am Go.Proofs
variable [F : Fr]

theorem BufAt.keep {lo wb : Nat} {H H' : AH} {l : List UInt8} (h : BufAt lo H wb l) (hk : Keep H H') : BufAt lo H' wb l := by
  obtain ⟨h1, v, h2, h3⟩ := h
  refine ⟨Nat.lt_of_lt_of_le h1 hk.1, v, by rw [hk.2 wb h1]; exact h2, ?_⟩
  rcases h3 with h | ⟨b, hv, hb, hbl, hbo⟩
  · exact .inl h
  · exact .inr ⟨b, hv, by rw [hk.2 b hbl]; exact hb, Nat.lt_of_lt_of_le hbl hk.1, hbo⟩

theorem BufAt.push {lo wb : Nat} {H : AH} {l : List UInt8} (h : BufAt lo H wb l) (x : Blk) : BufAt lo (H.push x) wb l := h.keep (Keep.push (Keep.refl _) x)

theorem BufAt.set {lo wb c : Nat} {H : AH} {l : List UInt8} (h : BufAt lo H wb l) {cs : List Value} {e : TypeId} (hc : H.get c = some (.cells cs e)) (h5 : e ≠ 5) (h26 : e ≠ 26) (x : Option Blk) : BufAt lo (H.set c x) wb l := by
  obtain ⟨h1, v, h2, h3⟩ := h
  have hne : wb ≠ c := by rintro rfl; rw [h2] at hc; cases hc; exact h26 rfl
  refine ⟨h1, v, by rw [AH.get_set_ne _ _ _ _ hne]; exact h2, ?_⟩
  rcases h3 with h | ⟨b, hv, hb, hbl, hbo⟩
  · exact .inl h
  · have hne2 : b ≠ c := by
      rintro rfl
      rw [hb] at hc
      injection hc with hc
      injection hc with _ he
      exact h5 he.symm
    exact .inr ⟨b, hv, by rw [AH.get_set_ne _ _ _ _ hne2]; exact hb, hbl, hbo⟩

theorem BufAt.ne {lo wb c : Nat} {H : AH} {l : List UInt8} (h : BufAt lo H wb l) {cs : List Value} {e : TypeId} (hc : H.get c = some (.cells cs e)) (h26 : e ≠ 26) : c ≠ wb := by
  rintro rfl
  obtain ⟨h1, v, h2, h3⟩ := h
  rw [h2] at hc; cases hc; exact h26 rfl

theorem BKeep.push {lo wb : Nat} {H H' : AH} (h : BKeep lo wb H H') (x : Blk) : BKeep lo wb H (H'.push x) := h.trans (.of (Keep.push (Keep.refl _) x))

theorem BKeep.set {lo wb c : Nat} {H H' : AH} (h : BKeep lo wb H H') (hc : H.next ≤ c) (x : Option Blk) : BKeep lo wb H (H'.set c x) :=
  ⟨h.1, fun b hb hw h5 => by rw [AH.get_set_ne _ _ _ _ (by omega)]; exact h.2 b hb hw h5⟩

structure Pq (H0 : AH) (lo wb n i : Nat) (sl : Value) (l : List UInt8) (a : AAct) (H : AH) : Prop where
  fn : a.n = 58
  d : a.defers = []
  t0 : a.tmps 0 = some (ptr wb)
  t14 : a.tmps 14 = some sl
  t15 : a.tmps 15 = some (.int .i64 n)
  t16 : a.tmps 16 = some (.int .i64 i)
  buf : BufAt lo H wb l
  keep : BKeep lo wb H0 H

structure Pn (H0 : AH) (lo wb n i : Nat) (sl : Value) (l : List UInt8) (nb : Nat) (x : NoteV) (a : AAct) (H : AH) : Prop where
  pq : Pq H0 lo wb n i sl l a H
  t5 : a.tmps 5 = some (ptr nb)
  hN : H.get nb = some (.cells x.cells 32)
  lo : H0.next ≤ nb
  hi : nb < H.next

theorem Pn.next {H0 : AH} {lo wb n i nb : Nat} {sl : Value} {l l' : List UInt8} {x : NoteV} {a a' : AAct} {H H' : AH} (h : Pn H0 lo wb n i sl l nb x a H)
    (e1 : a'.n = 58) (e2 : a'.defers = []) (e3 : a'.tmps 0 = some (ptr wb)) (e4 : a'.tmps 14 = some sl) (e5 : a'.tmps 15 = some (.int .i64 n)) (e6 : a'.tmps 16 = some (.int .i64 i))
    (e7 : a'.tmps 5 = some (ptr nb)) (hb : BufAt lo H' wb l') (hk : BKeep lo wb H H') : Pn H0 lo wb n i sl l' nb x a' H' := by
  obtain ⟨⟨hn, hd, t0, t14, t15, t16, hbuf, hK⟩, t5, hN, hlo, hhi⟩ := h
  have hk1 := hk.1
  exact ⟨⟨e1, e2, e3, e4, e5, e6, hb, hK.trans hk⟩, e7, hk.get hN hhi (by decide) (hbuf.ne hN (by decide)), hlo, by omega⟩

theorem pur5_none {args : List Value} : pur5 29 args = none ∧ pur5 30 args = none ∧ pur5 28 args = none := ⟨rfl, rfl, rfl⟩

theorem tp13 {H0 : AH} {lo wb n i nb w : Nat} {sl : Value} {l : List UInt8} {x : NoteV} {a : AAct} {H : AH} (K : Kont) (hno : x.Ok) (hw : w < 256) (h : Pn H0 lo wb n i sl l nb x a H) (t8 : a.tmps 8 = some (.int .u8 w))
    (hl : l.length ≤ 800000) (hlo0 : lo ≤ H0.next)
    (next : ∀ a' H', Pn H0 lo wb n i sl (l ++ [UInt8.ofNat w] ++ leL 8 x.health) nb x a' H' → app E (fnOf P) pur5 (plsOf plans 6) K .normal a' H') :
    WK E (fnOf P) pur5 (plsOf plans 6) tail6_13 K a H := by
  have hp := h
  obtain ⟨⟨hn, hd, t0, t14, t15, t16, hbuf, hK⟩, t5, hN, hlo, hhi⟩ := h
  have n29 : pur5 29 [ptr wb, .int .u8 w] = none := rfl
  have n30 : pur5 30 [ptr wb, .float .f64 x.health] = none := rfl
  have g27 := pur5_27 hno
  have hhl := x.health_le
  simp only [NoteV.val, NoteV.cells] at g27
  have hK1 := hK.1
  simp (maxDischargeDepth := 40) only [Nat.reduceEqDiff, Nat.reduceLT, WK_seq, WK_region, WLK_cons, List.cons_append, want, dstOk, opR, opE, opC, ev, evs, put_n, put_tmps, opCallR, ↓bind_match, ↓reduceIte, decide_true, true_and, List.cons_append, List.nil_append, tail6_13, hn, t0, t8, n29, fn29, ex29]
  refine CallK_buf (bbyte_walk hbuf hw (by omega) (by omega)) (fun H' h1 h2 => ?_)
  have h21 := h2.1
  have hN' := h2.get hN hhi (by decide) (hbuf.ne hN (by decide))
  simp only [NoteV.cells] at hN'
  simp (maxDischargeDepth := 40) only [Nat.reduceEqDiff, Nat.reduceLT, reduceCtorEq, Nat.reduceAdd, Nat.le_refl, WK_region, WLK_nil, WLK_cons, app_seq_normal, List.take_succ_cons, isAggD, aLoad, List.cons_append, List.take_zero, List.drop_zero, List.length_cons, List.length_nil, Nat.zero_add, AH.load, want, dstOk, opR, opE, opC, ev, evs, put_n, put_tmps, opCallR, ↓bind_match, ↓map_match, ↓reduceIte, decide_true, true_and, List.cons_append, List.nil_append, ty32, hn, t0, t5, hN', n30, g27, fn27, ex27, fn30, ex30]
  refine CallK_buf (fput_walk h1 (x := x.health) (by simp only [fOne] at hhl; omega) (by simp only [List.length_append, List.length_cons, List.length_nil]; omega) (by omega)) (fun H'' h3 h4 => ?_)
  rw [x.health_text] at h3
  simp (maxDischargeDepth := 40) only [WLK_nil]
  refine next _ _ (hp.next ?_ ?_ ?_ ?_ ?_ ?_ ?_ h3 (h2.trans h4))
  · simp only [put_n, hn]
  · simp only [put_defers, hd]
  all_goals simp (maxDischargeDepth := 40) only [Nat.reduceEqDiff, reduceCtorEq, put_tmps, ↓reduceIte, t0, t5, t14, t15, t16]

theorem tp10 {H0 : AH} {lo wb n i nb : Nat} {sl : Value} {l : List UInt8} {x : NoteV} {a : AAct} {H : AH} (K : Kont) (hno : x.Ok) (h : Pn H0 lo wb n i sl l nb x a H)
    (hl : l.length ≤ 800000) (hlo0 : lo ≤ H0.next)
    (next : ∀ a' H', Pn H0 lo wb n i sl (l ++ [if x.whole then 1 else 0] ++ leL 8 x.health) nb x a' H' → app E (fnOf P) pur5 (plsOf plans 6) K .normal a' H') :
    WK E (fnOf P) pur5 (plsOf plans 6) tail6_10 K a H := by
  have hp := h
  obtain ⟨⟨hn, hd, t0, t14, t15, t16, hbuf, hK⟩, t5, hN, hlo, hhi⟩ := h
  simp only [NoteV.cells] at hN
  have hbk : BKeep lo wb H H := BKeep.refl _ _ _
  cases hw : x.whole with
  | true =>
    rw [hw] at hN next
    simp (maxDischargeDepth := 40) only [Nat.reduceEqDiff, Nat.reduceLT, Nat.reduceAdd, Nat.le_refl, WK_seq, WK_cond, WK_region, WLK_nil, WLK_cons, app_seq_normal, List.take_succ_cons, List.drop_succ_cons, List.head?_cons, isAggD, aFieldAddr, aLoad, List.take_zero, List.drop_zero, List.length_cons, List.length_nil, Nat.zero_add, AH.load, Nat.succ_ne_self, want, dstOk, opR, ev, put_n, put_tmps, selfRel, ↓bind_match, ↓reduceIte, Bool.false_eq_true, decide_true, Bool.false_eq_true, true_and, List.getElem?_toArray, List.getElem?_cons_zero, List.getElem?_cons_succ, tail6_10, ty4, ty32, hn, t5, hN]
    refine tp13 (w := 1) K hno (by decide) (hp.next ?_ ?_ ?_ ?_ ?_ ?_ ?_ hbuf hbk) ?_ hl hlo0 next
    · simp only [put_n, hn]
    · simp only [put_defers, hd]
    all_goals simp (maxDischargeDepth := 40) only [Nat.reduceEqDiff, reduceCtorEq, Option.some.injEq, put_tmps, ↓reduceIte, t0, t5, t14, t15, t16]
    rfl
  | false =>
    rw [hw] at hN next
    simp (maxDischargeDepth := 40) only [Nat.reduceEqDiff, Nat.reduceLT, Nat.reduceAdd, Nat.le_refl, WK_skip, WK_seq, WK_cond, WK_region, WLK_nil, WLK_cons, app_seq_normal, List.take_succ_cons, List.drop_succ_cons, List.head?_cons, isAggD, aFieldAddr, aLoad, List.take_zero, List.drop_zero, List.length_cons, List.length_nil, Nat.zero_add, AH.load, Nat.succ_ne_self, want, dstOk, opR, ev, put_n, put_tmps, selfRel, ↓bind_match, ↓reduceIte, Bool.false_eq_true, decide_true, Bool.false_eq_true, true_and, List.getElem?_toArray, List.getElem?_cons_zero, List.getElem?_cons_succ, tail6_10, ty4, ty32, hn, t5, hN]
    refine tp13 (w := 0) K hno (by decide) (hp.next ?_ ?_ ?_ ?_ ?_ ?_ ?_ hbuf hbk) ?_ hl hlo0 next
    · simp only [put_n, hn]
    · simp only [put_defers, hd]
    all_goals simp (maxDischargeDepth := 40) only [Nat.reduceEqDiff, reduceCtorEq, Option.some.injEq, put_tmps, ↓reduceIte, t0, t5, t14, t15, t16]
    rfl

theorem numsT_length (l : List Int) : (l.flatMap fun y => num y.toNat).length ≤ 10 * l.length := by
  induction l with
  | nil => simp
  | cons z l ih =>
    have := num_length z.toNat
    simp only [List.flatMap_cons, List.length_append, List.length_cons]
    omega

/-- A round of the inner loop. -/
theorem bp0 {H0 : AH} {lo wb n i nb pb j : Nat} {sl : Value} {l : List UInt8} {x : NoteV} {a : AAct} {H : AH} (K : Kont) (hno : x.Ok) (hj : j ≤ 6)
    (h : Pn H0 lo wb n i sl (l ++ (x.nums.take j).flatMap fun y => num y.toNat) nb x a H)
    (t36 : a.tmps 36 = some (.slice (some ⟨pb, 0, none⟩) 6 6)) (t37 : a.tmps 37 = some (.int .i64 6)) (t38 : a.tmps 38 = some (.int .i64 j)) (hP : H.get pb = some (.cells (x.nums.map (.int .i64)) 3)) (hpb : pb < H.next)
    (hl : l.length ≤ 500000) (hlo0 : lo ≤ H0.next)
    (go : j < 6 → ∀ a' H', Pn H0 lo wb n i sl (l ++ (x.nums.take (j + 1)).flatMap fun y => num y.toNat) nb x a' H' → a'.tmps 36 = some (.slice (some ⟨pb, 0, none⟩) 6 6) → a'.tmps 37 = some (.int .i64 6) →
      a'.tmps 38 = some (.int .i64 ((j + 1 : Nat) : Int)) → H'.get pb = some (.cells (x.nums.map (.int .i64)) 3) → pb < H'.next → app E (fnOf P) pur5 (plsOf plans 6) K .normal a' H')
    (out : j = 6 → ∀ a' H', Pn H0 lo wb n i sl (l ++ x.nums.flatMap fun y => num y.toNat) nb x a' H' → app E (fnOf P) pur5 (plsOf plans 6) K (.exit 2) a' H') :
    WK E (fnOf P) pur5 (plsOf plans 6) body6_0 K a H := by
  have hp := h
  obtain ⟨⟨hn, hd, t0, t14, t15, t16, hbuf, hK⟩, t5, hN, hlo, hhi⟩ := h
  have hcl : x.nums.length = 6 := rfl
  have hK1 := hK.1
  by_cases hj6 : j < 6
  · have go := go hj6
    have d1 : decide ((j : Int) < 6) = true := by simp; omega
    obtain ⟨y, hy⟩ : ∃ y, x.nums[j]? = some y := ⟨_, List.getElem?_eq_getElem (by rw [hcl]; exact hj6)⟩
    have hy' : (x.nums.map (Value.int .i64))[j]? = some (.int .i64 y) := by simp [hy]
    obtain ⟨s1, s2⟩ := take_one hy'
    have e3 : aIndexAddr E.ty 34 (.slice (some ⟨pb, 0, none⟩) 6 6) (.int .i64 (j : Int)) = some (.pointer (some ⟨pb, j, none⟩)) := by
      rw [aIndexAddr_slice ty34 rfl ty3 hj6]; simp
    obtain ⟨hyo1, hyo2⟩ := hno.nums_ok y (List.mem_of_getElem? hy)
    have f1 : ∀ z : Int, (if z > 0 then z else 0) = ((z.toNat : Nat) : Int) := by intro z; split <;> omega
    have f2 : y.toNat % 18446744073709551616 = y.toNat := Nat.mod_eq_of_lt (by omega)
    have f3 : IntKind.i64.wrap ((j : Int) + 1) = ((j + 1 : Nat) : Int) := by rw [wrap_i64 (by omega) (by omega)]; simp
    have n28 : pur5 28 [ptr wb, .int .u64 ((y.toNat : Nat) : Int)] = none := rfl
    have hln : (l ++ (x.nums.take j).flatMap fun y => num y.toNat).length ≤ 900000 := by
      have g4 := numsT_length (x.nums.take j)
      have g5 : (x.nums.take j).length ≤ 6 := by simp [hcl]; omega
      simp only [List.length_append]
      omega
    have hT : (l ++ (x.nums.take j).flatMap fun y => num y.toNat) ++ num y.toNat = l ++ (x.nums.take (j + 1)).flatMap fun y => num y.toNat := by
      rw [List.take_add_one, hy, List.flatMap_append]
      simp [List.append_assoc]
    have hv := vput_walk hbuf (x := y.toNat) (by omega) hln (by omega)
    rw [hT] at hv
    simp (maxDischargeDepth := 40) only [Nat.reduceEqDiff, Nat.reduceLT, reduceCtorEq, WK_skip, WK_seq, WK_cond, WK_block, WK_region, WLK_nil, WLK_cons, app_seq_normal, ne_eq, not_true_eq_false, List.head?_cons, isAggD, aLoad, List.cons_append, aConvert, AH.load, want, dstOk, opR, opE, opC, ev, evs, put_n, put_tmps, selfRel, aNilNil, nilC_tmp, opCallR, ↓bind_match, ↓reduceIte, Bool.false_eq_true, decide_true, Bool.or_self, Bool.false_eq_true, true_and, List.cons_append, List.nil_append, body6_0, aBin_int, intBin, ty3, ty30, foldInt, maxInt, hn, t0, t36, t37, t38, d1, e3, hP, s1, s2, f1, f2, wrap_u64, n28, fn28, ex28]
    refine CallK_buf hv (fun H' h1 h2 => ?_)
    have h21 := h2.1
    have hP' := h2.get hP hpb (by decide) (hbuf.ne hP (by decide))
    simp (maxDischargeDepth := 40) only [Nat.reduceEqDiff, Nat.reduceLT, WK_region, WLK_nil, WLK_cons, app_seq_normal, app_block_normal, ne_eq, not_true_eq_false, want, dstOk, opR, ev, put_n, put_tmps, selfRel, aNilNil, nilC_tmp, nilC_int, ↓bind_match, ↓reduceIte, Bool.false_eq_true, decide_true, Bool.or_self, Bool.false_eq_true, true_and, aBin_int, intBin, hn, t38, f3]
    refine go _ _ (hp.next ?_ ?_ ?_ ?_ ?_ ?_ ?_ h1 h2) ?_ ?_ ?_ hP' (by omega)
    · simp only [put_n, hn]
    · simp only [put_defers, hd]
    all_goals simp (maxDischargeDepth := 40) only [Nat.reduceEqDiff, reduceCtorEq, put_tmps, ↓reduceIte, t0, t5, t14, t15, t16, t36, t37]
  · have d1 : decide ((j : Int) < 6) = false := by simp; omega
    have hj6' : j = 6 := by omega
    subst hj6'
    have ht6 : x.nums.take 6 = x.nums := List.take_of_length_le (by rw [hcl]; exact Nat.le_refl _)
    rw [ht6] at hp hbuf
    simp (maxDischargeDepth := 40) only [Nat.reduceLT, WK_exit, WK_seq, WK_cond, WK_region, WLK_nil, WLK_cons, app_seq_normal, app_seq_exit, ne_eq, not_true_eq_false, want, dstOk, opR, ev, put_tmps, aNilNil, nilC_tmp, ↓bind_match, ↓reduceIte, Bool.false_eq_true, decide_true, Bool.or_self, Bool.false_eq_true, true_and, body6_0, aBin_int, intBin, hn, t37, t38, d1]
    refine out rfl _ _ (hp.next ?_ ?_ ?_ ?_ ?_ ?_ ?_ hbuf (BKeep.refl _ _ _))
    · simp only [put_n, hn]
    · simp only [put_defers, hd]
    all_goals simp (maxDischargeDepth := 40) only [Nat.reduceEqDiff, reduceCtorEq, put_tmps, ↓reduceIte, t0, t5, t14, t15, t16]

end Go.Am.Q

/- Notes, written: the walk. -/
set_option linter.unusedSimpArgs false
set_option linter.unusedSectionVars false
set_option maxRecDepth 20000
namespace Go.Am.Q
open Go Go.Am Go.Proofs
variable [F : Fr]

/-- A row of notes that came in. -/
def RoNotes (H : AH) (v : Value) (ns : List NoteV) : Prop :=
  (v = .slice none 0 0 ∧ ns = []) ∨ ∃ b cap e, v = .slice (some ⟨b, 0, none⟩) ns.length cap ∧ H.get b = some (.ro (ns.flatMap NoteV.cells) e) ∧ b < H.next

theorem RoNotes.len {H : AH} {v : Value} {ns : List NoteV} (h : RoNotes H v ns) : ∃ a cap, v = .slice a ns.length cap := by
  rcases h with ⟨rfl, rfl⟩ | ⟨b, cap, e, rfl, _, _⟩
  · exact ⟨_, _, rfl⟩
  · exact ⟨_, _, rfl⟩

theorem RoNotes.keep {H H' : AH} {v : Value} {ns : List NoteV} (h : RoNotes H v ns) (hk : Keep H H') : RoNotes H' v ns := by
  rcases h with h | ⟨b, cap, e, h1, h2, h3⟩
  · exact .inl h
  · exact .inr ⟨b, cap, e, h1, by rw [hk.2 b h3]; exact h2, Nat.lt_of_lt_of_le h3 hk.1⟩

theorem BKeep.ro {lo wb : Nat} {H H' : AH} (h : BKeep lo wb H H') {b : Nat} {cs : List Value} {e : TypeId} (hb : H.get b = some (.ro cs e)) (hl : b < H.next) {v : Value} (hw : H.get wb = some (.cells [v] 26)) :
    H'.get b = some (.ro cs e) := by
  rw [h.2 b hl (by rintro rfl; rw [hb] at hw; cases hw) fun _ cs' hc => by rw [hb] at hc; cases hc]
  exact hb

set_option maxHeartbeats 1000000 in
theorem bp1 {H0 : AH} {lo wb i : Nat} {sl : Value} {l : List UInt8} {ns : List NoteV} {a : AAct} {H : AH} (K : Kont) (hok : ∀ n ∈ ns, n.Ok) (hns : ns.length ≤ 1000) (hlo0 : lo ≤ H0.next) (hwb : wb < H0.next)
    (hv : RoNotes H0 sl ns) (hl : l.length ≤ 200000) (h : Pq H0 lo wb ns.length i sl (l ++ noteHead ns i) a H) (hw0 : ∃ v, H0.get wb = some (.cells [v] 26))
    (go : i < ns.length → ∀ a' H', Pq H0 lo wb ns.length (i + 1) sl (l ++ noteHead ns (i + 1)) a' H' → app E (fnOf P) pur5 (plsOf plans 6) K .normal a' H')
    (out : ns.length ≤ i → ∀ a' H', Pq H0 lo wb ns.length i sl (l ++ noteHead ns i) a' H' → app E (fnOf P) pur5 (plsOf plans 6) K (.exit 0) a' H') :
    WK E (fnOf P) pur5 (plsOf plans 6) body6_1 K a H := by
  have hp := h
  obtain ⟨hn, hd, t0, t14, t15, t16, hbuf, hK⟩ := h
  have hK1 := hK.1
  have hhl := noteHead_length (i := i) hns
  by_cases hi : i < ns.length
  · have go := go hi
    have d0 : decide ((i : Int) < (ns.length : Int)) = true := by simp; omega
    rcases hv with ⟨_, hnil⟩ | ⟨b, cap, _, rfl, hB0, hb⟩
    · rw [hnil] at hi; simp at hi
    obtain ⟨wv, hwv⟩ := hw0
    have hB := hK.ro hB0 hb hwv
    obtain ⟨x, hx⟩ : ∃ x, ns[i]? = some x := ⟨ns[i], by simp [hi]⟩
    obtain ⟨r1, r2⟩ := take_row NoteV.cells 8 NoteV.cells_length hx
    have hxo := hok x (List.mem_of_getElem? hx)
    have e2 : aIndexAddr E.ty 22 (.slice (some ⟨b, 0, none⟩) ns.length cap) (.int .i64 (i : Int)) = some (.pointer (some ⟨b, i * 8, none⟩)) := by
      rw [aIndexAddr_slice ty22 rfl ty32 hi]; simp
    have n28 : pur5 28 [ptr wb, .int .u64 (x.number : Int)] = none := rfl
    have nb1 : ¬ b = H.next := by omega
    have hbuf1 : BufAt lo ((H.push (.cells [.int .u64 0, .int .i64 0, .int .i64 0, .int .i64 0, .int .i64 0, .int .i64 0, .int .i64 0, .bool false] 32)).set H.next
        (some (.cells [.int .u64 x.number, .int .i64 x.bytes, .int .i64 x.erased, .int .i64 x.chunks, .int .i64 x.empty, .int .i64 x.found, .int .i64 x.good, .bool x.whole] 32))) wb (l ++ noteHead ns i) :=
      (hbuf.push _).set (AH.get_push_same _ _) (by decide) (by decide) _
    have hk1 := (BKeep.refl lo wb H).push (.cells [.int .u64 0, .int .i64 0, .int .i64 0, .int .i64 0, .int .i64 0, .int .i64 0, .int .i64 0, .bool false] 32)
    have hk2 := hk1.set (c := H.next) (Nat.le_refl _)
        (some (.cells [.int .u64 x.number, .int .i64 x.bytes, .int .i64 x.erased, .int .i64 x.chunks, .int .i64 x.empty, .int .i64 x.found, .int .i64 x.good, .bool x.whole] 32))
    have hN1 := AH.get_set_same (H.push (.cells [.int .u64 0, .int .i64 0, .int .i64 0, .int .i64 0, .int .i64 0, .int .i64 0, .int .i64 0, .bool false] 32)) H.next
        (some (.cells [.int .u64 x.number, .int .i64 x.bytes, .int .i64 x.erased, .int .i64 x.chunks, .int .i64 x.empty, .int .i64 x.found, .int .i64 x.good, .bool x.whole] 32))
    simp (maxDischargeDepth := 40) only [Nat.reduceEqDiff, Nat.reduceLT, Nat.reduceLeDiff, reduceCtorEq, Nat.reduceAdd, Nat.le_refl, Nat.reduceLeDiff,  WK_skip, WK_seq, WK_cond, WK_block, WK_region, WLK_nil, WLK_cons, app_seq_normal, ne_eq, not_true_eq_false, List.take_succ_cons, List.drop_succ_cons, List.head?_cons, isAggD, List.all_cons, List.all_nil, oc_int, oc_bool, cells_agg, Bool.and_self, aNew, aAlloc, aFieldAddr, aLoad, aStore, List.cons_append, List.take_zero, List.drop_zero, List.length_cons, List.length_nil, Nat.zero_add, AH.load, AH.store, splice, AH.get_push, AH.get_set, Nat.succ_ne_self, want, dstOk, opR, opE, opC, ev, evs, put_n, put_tmps, put_none, aNilNil, nilC_tmp, opCallR, ↓bind_match, ↓map_match, ↓reduceIte, Bool.false_eq_true, decide_true, Bool.or_self, Bool.false_eq_true, true_and, and_true, List.toList_toArray, List.size_toArray, List.getElem?_toArray, List.getElem?_cons_zero, List.cons_append, List.nil_append, body6_1, aBin_int, intBin, ty30, ty32, hn, t0, t14, t15, t16, d0, e2, hB, r1, r2, NoteV.cells, n28, fn28, ex28]
    refine CallK_buf (vput_walk hbuf1 hxo.number (by simp only [List.length_append]; omega) (by simp only [AH.next_set, AH.next_push]; omega)) (fun H2 hb2 hk3 => ?_)
    have hN2 := hk3.get hN1 (by simp only [AH.next_set, AH.next_push]; omega) (by decide) (hbuf1.ne hN1 (by decide))
    have hk4 := hk2.trans hk3
    have hk41 := hk3.1
    simp only [AH.next_set, AH.next_push] at hk41
    have e34 : ∀ H a, aLen E.ty H 34 (.slice a 6 6) = some (.int .i64 6) := fun H a => aLen_slice ty34 rfl _ _ _
    simp (maxDischargeDepth := 40) only [Nat.reduceEqDiff, Nat.reduceLT, Nat.reduceLeDiff, Nat.reduceAdd, Nat.reduceLeDiff,  WK_seq, WK_block, WK_loop, WK_region, WLK_nil, WLK_cons, app_seq_normal, List.take_succ_cons, List.drop_succ_cons, List.head?_cons, isAggD, aFieldAddr, aLoad, List.take_zero, List.drop_zero, List.length_cons, List.length_nil, Nat.zero_add, AH.load, Nat.succ_ne_self, want, dstOk, opR, opE, ev, evs, evParts, put_n, put_tmps, selfRel, opCallR, ↓bind_match, ↓reduceIte, Bool.false_eq_true, decide_true, Bool.false_eq_true, true_and, List.getElem?_toArray, List.getElem?_cons_zero, List.getElem?_cons_succ, tail6_5, ty3, ty32, hn, hN2, bs34, e34]
    have hnl := num_length x.number
    refine ⟨fun m a' H' => ∃ j pb, j + m = 6 ∧ Pn H0 lo wb ns.length i (.slice (some ⟨b, 0, none⟩) ns.length cap) (l ++ noteHead ns i ++ num x.number ++ (x.nums.take j).flatMap fun y => num y.toNat) H.next x a' H' ∧
      a'.tmps 36 = some (.slice (some ⟨pb, 0, none⟩) 6 6) ∧ a'.tmps 37 = some (.int .i64 6) ∧ a'.tmps 38 = some (.int .i64 (j : Int)) ∧ H'.get pb = some (.cells (x.nums.map (.int .i64)) 3) ∧ pb < H'.next, 6,
      ⟨0, H2.next, rfl, ⟨⟨?_, ?_, ?_, ?_, ?_, ?_, ?_, ?_⟩, ?_, ?_, ?_, ?_⟩, ?_, ?_, ?_, ?_, ?_⟩, ?_⟩
    · simp only [put_n, hn]
    · simp only [put_defers, hd]
    · simp (maxDischargeDepth := 40) only [reduceCtorEq, put_tmps, ↓reduceIte, t0]
    · simp (maxDischargeDepth := 40) only [Nat.reduceEqDiff, put_tmps, ↓reduceIte, t14]
    · simp (maxDischargeDepth := 40) only [Nat.reduceEqDiff, put_tmps, ↓reduceIte, t15]
    · simp (maxDischargeDepth := 40) only [Nat.reduceEqDiff, put_tmps, ↓reduceIte, t16]
    · simp only [List.take_zero, List.flatMap_nil, List.append_nil]
      exact hb2.push _
    · exact (hK.trans hk4).push _
    · simp (maxDischargeDepth := 40) only [Nat.reduceEqDiff, put_tmps, ↓reduceIte]
    · rw [AH.get_push_ne _ _ _ (by omega)]; exact hN2
    · omega
    · simp only [AH.next_push]; omega
    · simp (maxDischargeDepth := 40) only [Nat.reduceEqDiff, put_tmps, ↓reduceIte]
    · simp (maxDischargeDepth := 40) only [Nat.reduceEqDiff, put_tmps, ↓reduceIte]
    · simp (maxDischargeDepth := 40) only [Option.some.injEq, put_tmps, ↓reduceIte]
      rfl
    · exact AH.get_push_same _ _
    · simp only [AH.next_push]; omega
    · rintro m a' H' ⟨j, pb, hjm, hP, u36, u37, u38, hPb, hpb⟩
      refine bp0 _ hxo (by omega) hP u36 u37 u38 hPb hpb (by simp only [List.length_append]; omega) hlo0 (fun hj a2 H2 h2 g36 g37 g38 gP gb => ?_) (fun hj a2 H2 h2 => ?_)
      · simp only [app_inv_normal]
        exact ⟨m - 1, by omega, j + 1, pb, by omega, h2, g36, g37, g38, gP, gb⟩
      · simp only [app_inv_exit, app_block_exit, if_true, app_seq_normal]
        have g4 := numsT_length x.nums
        have g5 : x.nums.length = 6 := rfl
        refine tp10 _ hxo h2 (by simp only [List.length_append]; omega) hlo0 fun a3 H3 h3 => ?_
        obtain ⟨⟨q1, q2, q3, q4, q5, q6, q7, q8⟩, _, _, _, _⟩ := h3
        have f3 : IntKind.i64.wrap ((i : Int) + 1) = ((i + 1 : Nat) : Int) := by rw [wrap_i64 (by omega) (by omega)]; simp
        simp (maxDischargeDepth := 40) only [Nat.reduceLT, WK_region, WLK_nil, WLK_cons, app_seq_normal, app_block_normal, ne_eq, not_true_eq_false, want, dstOk, opR, ev, put_n, put_tmps, selfRel, aNilNil, nilC_tmp, nilC_int, ↓bind_match, ↓reduceIte, Bool.false_eq_true, decide_true, Bool.or_self, Bool.false_eq_true, true_and, aBin_int, intBin, q1, q6, f3]
        have hnext : noteHead ns (i + 1) = noteHead ns i ++ x.text := by
          unfold noteHead
          rw [List.take_add_one, hx, List.flatMap_append]
          simp [List.append_assoc]
        refine go _ _ ⟨?_, ?_, ?_, ?_, ?_, ?_, ?_, q8⟩
        · simp only [put_n, q1]
        · simp only [put_defers, q2]
        · simp (maxDischargeDepth := 40) only [reduceCtorEq, put_tmps, ↓reduceIte, q3]
        · simp (maxDischargeDepth := 40) only [Nat.reduceEqDiff, put_tmps, ↓reduceIte, q4]
        · simp (maxDischargeDepth := 40) only [Nat.reduceEqDiff, put_tmps, ↓reduceIte, q5]
        · simp (maxDischargeDepth := 40) only [put_tmps, ↓reduceIte]
        · have : l ++ noteHead ns (i + 1) = l ++ noteHead ns i ++ num x.number ++ (x.nums.flatMap fun y => num y.toNat) ++ [if x.whole then 1 else 0] ++ leL 8 x.health := by
            rw [hnext]
            unfold NoteV.text
            simp only [List.append_assoc]
          rw [this]
          exact q7
  · have d0 : decide ((i : Int) < (ns.length : Int)) = false := by simp; omega
    simp (maxDischargeDepth := 40) only [Nat.reduceLT, WK_exit, WK_seq, WK_cond, WK_region, WLK_nil, WLK_cons, app_seq_normal, app_seq_exit, ne_eq, not_true_eq_false, want, dstOk, opR, ev, put_tmps, aNilNil, nilC_tmp, ↓bind_match, ↓reduceIte, Bool.false_eq_true, decide_true, Bool.or_self, Bool.false_eq_true, true_and, body6_1, aBin_int, intBin, hn, t15, t16, d0]
    refine out (by omega) _ _ ⟨?_, ?_, ?_, ?_, ?_, ?_, hbuf, hK⟩
    · simp only [put_n, hn]
    · simp only [put_defers, hd]
    all_goals simp (maxDischargeDepth := 40) only [Nat.reduceEqDiff, reduceCtorEq, put_tmps, ↓reduceIte, t0, t14, t15, t16]

/-- Notes are written. -/
theorem nput_walk {lo wb : Nat} {H0 : AH} {v : Value} {l : List UInt8} {ns : List NoteV} (h : BufAt lo H0 wb l) (hv : RoNotes H0 v ns) (hok : ∀ n ∈ ns, n.Ok) (hns : ns.length ≤ 1000) (hl : l.length ≤ 200000) (hlo : lo ≤ H0.next) :
    ACalls P 6 [ptr wb, v] H0 (BufR lo H0 wb (l ++ notesText ns) (.tuple #[])) := by
  refine ACalls_K E (fnOf_ok P) mixed pur5_ok fn6 ok6 sx6 (by simp [nt6]) ?_
  simp only [nt6]
  obtain ⟨va, vc, hve⟩ := hv.len
  have hw0 : ∃ v, H0.get wb = some (.cells [v] 26) := by obtain ⟨_, v, h, _⟩ := h; exact ⟨v, h⟩
  have hw1 := h.1
  subst hve
  have e22 : ∀ H, aLen E.ty H 22 (.slice va ns.length vc) = some (.int .i64 ns.length) := fun H => aLen_slice ty22 rfl _ _ _
  have f2 : ns.length % 18446744073709551616 = ns.length := Nat.mod_eq_of_lt (by omega)
  have n28 : pur5 28 [ptr wb, .int .u64 ((ns.length : Nat) : Int)] = none := rfl
  simp (maxDischargeDepth := 40) only [Nat.reduceEqDiff, Nat.reduceLT, WK_seq, WK_region, WLK_cons, List.cons_append, Nat.zero_add, aConvert, Nat.succ_ne_self, want, dstOk, opR, opE, opC, ev, evs, entry, argT, put_n, put_tmps, opCallR, ↓bind_match, ↓reduceIte, decide_true, true_and, List.cons_append, List.nil_append, code6, ty3, ty30, e22, wrap_u64, f2, n28, fn28, ex28]
  refine CallK_buf (vput_walk h (x := ns.length) (by omega) (by omega) hlo) (fun H1 h1 hk => ?_)
  simp (maxDischargeDepth := 40) only [Nat.reduceEqDiff, Nat.reduceLT, WK_seq, WK_block, WK_loop, WK_region, WLK_nil, WLK_cons, app_seq_normal, Nat.succ_ne_self, want, dstOk, opR, ev, evs, put_n, put_tmps, selfRel, opCallR, ↓bind_match, ↓reduceIte, decide_true, true_and, e22]
  refine ⟨fun m a H => ∃ i, i + m = ns.length ∧ Pq H0 lo wb ns.length i (.slice va ns.length vc) (l ++ noteHead ns i) a H, ns.length, ⟨0, by omega, ⟨?_, ?_, ?_, ?_, ?_, ?_, ?_, hk⟩⟩, ?_⟩
  · rfl
  · rfl
  · simp (maxDischargeDepth := 40) only [reduceCtorEq, put_tmps, ↓reduceIte]
  · simp (maxDischargeDepth := 40) only [Nat.reduceEqDiff, put_tmps, ↓reduceIte]
  · simp (maxDischargeDepth := 40) only [Nat.reduceEqDiff, put_tmps, ↓reduceIte]
  · simp (maxDischargeDepth := 40) only [Option.some.injEq, put_tmps, ↓reduceIte]
    rfl
  · simp only [noteHead, List.take_zero, List.flatMap_nil, List.append_nil]; exact h1
  · rintro m a H ⟨i, him, hP⟩
    refine bp1 _ hok hns hlo hw1 hv hl hP hw0 (fun hi a2 H2 h2 => ?_) (fun hi a2 H2 h2 => ?_)
    · simp only [app_inv_normal]
      exact ⟨m - 1, by omega, i + 1, by omega, h2⟩
    · obtain ⟨q1, q2, q3, q4, q5, q6, q7, q8⟩ := h2
      have : noteHead ns i = notesText ns := by
        unfold noteHead notesText
        rw [List.take_of_length_le hi]
      rw [this] at q7
      simp (maxDischargeDepth := 40) only [app_fin, app_block_exit, app_inv_exit, Option.some.injEq, exists_eq_left', ↓reduceIte, true_and, ABody, aResults, tupleOf, rs6, q2]
      exact ⟨rfl, q7, q8⟩

end Go.Am.Q
