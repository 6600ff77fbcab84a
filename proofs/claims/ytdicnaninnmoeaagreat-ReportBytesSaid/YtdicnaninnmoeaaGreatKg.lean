/- What a cursor's readings compute; report.Get. -/
import Derived.Test.YtdicnaninnmoeaaGreatKe
import Derived.Test.YtdicnaninnmoeaaGreatAmX3
import Derived.Test.YtdicnaninnmoeaaGreatKf
set_option linter.unusedSectionVars false
set_option linter.unusedSimpArgs false
set_option linter.unusedVariables false
set_option linter.unnecessarySimpa false
/- Readings of bytes: what a reading is made of. -/
set_option linter.unusedSimpArgs false
set_option linter.unusedSectionVars false
set_option maxRecDepth 20000
namespace Go.Am.Q
open Go Go.Am Go.Proofs
variable [F : Fr]

abbrev ptr (b : Nat) : Value := .pointer (some ⟨b, 0, none⟩)

/-- A reading: what is left of its bytes, how many were read. -/
def CurAt (H : AH) (cb : Nat) (r : RdV) : Prop :=
  r.e = 0 ∧ cb < H.next ∧ ∃ v l, H.get cb = some (.cells [v, .int .i64 r.pos, .bool true] 83) ∧ l.length ≤ 1000000 ∧ r.pos ≤ l.length ∧ r.s = l.drop r.pos ∧
    ((v = .slice none 0 0 ∧ l = []) ∨ ∃ b o cap cs, v = .slice (some ⟨b, o, none⟩) l.length cap ∧ b ≠ cb ∧ H.get b = some (.cells cs 5) ∧ (cs.drop o).take l.length = u8s l ∧
      o + l.length ≤ cs.length ∧ b < H.next)

theorem CurAt.keep {H H' : AH} {cb : Nat} {r : RdV} (h : CurAt H cb r) (hk : Keep H H') : CurAt H' cb r := by
  obtain ⟨h1, h2, v, l, h3, h4, h5, h6, h7⟩ := h
  refine ⟨h1, Nat.lt_of_lt_of_le h2 hk.1, v, l, by rw [hk.2 cb h2]; exact h3, h4, h5, h6, ?_⟩
  rcases h7 with h | ⟨b, o, cap, cs, g1, g2, g3, g4, g5, g6⟩
  · exact .inl h
  · exact .inr ⟨b, o, cap, cs, g1, g2, by rw [hk.2 b g6]; exact g3, g4, g5, Nat.lt_of_lt_of_le g6 hk.1⟩

def fault (cb e : Nat) : PanicEntry := { v := .iface 85 (.agg #[ptr cb, .int .i64 (e : Int)]), recovered := false }

theorem dead_h {H : AH} {cb : Nat} {r : RdV} (h : CurAt H cb r) : HPure P 65 [ptr cb] H (.bool false) := by
  obtain ⟨h1, h2, v, l, h3, h4, h5, h6, h7⟩ := h
  refine HPure_of rfl ?_
  refine ACalls_K E (fnOf_ok P) mixed pur0_ok fn65 ok65 sx65 (by simp [nt65]) ?_
  simp only [nt65]
  have e1 := eq_ptr_nil (ty := E.ty) (eqOk := E.eqOk) ty39 rfl ⟨cb, 0, none⟩
  simp (maxDischargeDepth := 40) only [Nat.reduceEqDiff, Nat.reduceLT, reduceCtorEq, Nat.reduceAdd, Nat.le_refl, WK_ret, WK_seq, WK_region, WLK_nil, WLK_cons, app_fin, app_seq_normal, List.take_succ_cons, List.drop_succ_cons, List.head?_cons, isAggD, aFieldAddr, aLoad, List.take_zero, List.drop_zero, List.length_cons, List.length_nil, Nat.zero_add, Keep.refl, Option.some.injEq, exists_eq_left', AH.load, Nat.succ_ne_self, want, dstOk, opR, ev, entry, argT, put_n, put_tmps, put_defers, selfRel, aNilNil, nilC_tmp, nilC_ptr, ↓bind_match, ↓reduceIte, Bool.false_eq_true, decide_true, Bool.or_self, beq_self_eq_true, Bool.not_true, Bool.false_eq_true, and_true, List.getElem?_toArray, List.getElem?_cons_zero, List.getElem?_cons_succ, ABody, aResults, aResult, tupleOf, code65, rs65, ty4, ty83, e1, h3, aUn]

theorem b85 (c' : Option Addr) (e : Int) : aBuild E.ty 85 #[(0, .pointer c'), (1, .int .i64 e)] = some (.agg #[.pointer c', .int .i64 e]) := by rfl

theorem bs23_0 (H : AH) : aBuildSlice E.ty H 23 0 #[] = some (.slice (some ⟨H.next, 0, none⟩) 0 0, H.push (.cells [] 5)) := by
  have hf : Instr.fill (fun i => some (i * 1, 1)) (zeroRow ⟨.int .u8, 1, 1, .int .u8 0⟩ (0 * 1)) [] = some #[] := by kernel_rfl
  simp only [aBuildSlice, ty23, ty5, hf]
  rfl

theorem fail_walk {H : AH} {cb : Nat} {r : RdV} (h : CurAt H cb r) {e : Nat} (he : e ≠ 0) : ACalls P 35 [ptr cb, .int .i64 e] H fun en H' => en = .panicked [fault cb e] ∧ H' = H := by
  refine ACalls_K E (fnOf_ok P) mixed pur0_ok fn35 ok35 sx35 (by simp [nt35]) ?_
  simp only [nt35]
  have hne : ((e : Int) != 0) = true := by simp [nat_bne0, he]
  simp (maxDischargeDepth := 40) only [Nat.reduceLT, WK_seq, WK_region, WLK_cons, List.cons_append, Nat.zero_add, want, dstOk, opR, opE, opC, ev, evs, entry, argT, put_n, put_tmps, opCallR, ↓bind_match, ↓reduceIte, decide_true, true_and, List.cons_append, List.nil_append, code35, pur0, fn65, ex65]
  refine CallK_pure (dead_h h) ?_
  simp (maxDischargeDepth := 40) only [Nat.reduceEqDiff, Nat.reduceLT, reduceCtorEq, WK_cond, WK_region, WLK_nil, WLK_cons, app_fin, app_seq_normal, ne_eq, not_true_eq_false, Nat.succ_ne_self, want, dstOk, opR, ev, evParts, put_n, put_tmps, put_defers, selfRel, aNilNil, nilC_tmp, nilC_int, ↓bind_match, ↓map_match, ↓reduceIte, Bool.false_eq_true, decide_true, Bool.or_self, beq_self_eq_true, Bool.not_false, Bool.false_eq_true, and_true, List.getElem?_toArray, List.getElem?_cons_zero, List.getElem?_cons_succ, ABody, aUn, ty85, aBin_int, intBin, hne, fault, b85]

theorem clone_walk {H : AH} {v : Value} {l : List UInt8} (h : BytesV H v l) (hl : l.length ≤ 1000000) : ACalls P 31 [v] H fun en H' => ∃ v', en = .returned v' ∧ Keep H H' ∧
    ((v' = .slice none 0 0 ∧ l = []) ∨ ∃ b cap, v' = .slice (some ⟨b, 0, none⟩) l.length cap ∧ H'.get b = some (.cells (u8s l) 5) ∧ H.next ≤ b ∧ b < H'.next) := by
  refine ACalls_K E (fnOf_ok P) mixed pur0_ok fn31 ok31 sx31 (by simp [nt31]) ?_
  simp only [nt31]
  rcases h with ⟨rfl, rfl⟩ | ⟨b, o, cap, cs, rfl, h2, h3, h4, h5⟩
  · have e1 := eq_slice_nil (ty := E.ty) (eqOk := E.eqOk) ty23 rfl none 0 0
    simp (maxDischargeDepth := 40) only [Nat.reduceLT, reduceCtorEq, WK_ret, WK_seq, WK_cond, WK_region, WLK_nil, WLK_cons, app_fin, app_seq_normal, app_seq_ret, List.length_nil, Keep.refl, Option.some.injEq, exists_eq_left', want, dstOk, opR, ev, entry, argT, put_n, put_tmps, put_defers, selfRel, aNilNil, nilC_tmp, nilC_slice, ↓bind_match, ↓reduceIte, Bool.false_eq_true, decide_true, Bool.or_self, Bool.false_eq_true, true_and, and_true, ABody, aResults, aResult, tupleOf, code31, rs31, e1, Option.isNone_none]
    exact ⟨_, rfl, .inl rfl⟩
  · have e1 := eq_slice_nil (ty := E.ty) (eqOk := E.eqOk) ty23 rfl (some ⟨b, o, none⟩) l.length cap
    have e2 := bs23_0 H
    have e3 : (H.push (.cells [] 5)).get b = some (.cells cs 5) ∨ ∃ e, (H.push (.cells [] 5)).get b = some (.ro cs e) := by rw [AH.get_push_ne _ _ _ (by omega)]; exact h2
    have e4 := appendBytes_nil (H := H.push (.cells [] 5)) ty23 rfl ty5 rfl (by decide) (by decide) (a := some ⟨H.next, 0, none⟩) rfl e3 h3 h4 (by omega) (.inr ⟨_, rfl⟩) (c := cap)
    by_cases hz : l.length = 0
    · rw [if_pos hz] at e4
      simp (maxDischargeDepth := 40) only [Nat.reduceEqDiff, Nat.reduceLT, reduceCtorEq, WK_skip, WK_ret, WK_seq, WK_cond, WK_region, WLK_nil, WLK_cons, app_fin, app_seq_normal, Keep.refl, Keep.push, Option.some.injEq, exists_eq_left', AH.get_push, AH.next_push, want, dstOk, opR, opE, ev, evs, evParts, entry, argT, put_n, put_tmps, put_defers, selfRel, aNilNil, nilC_tmp, nilC_slice, opCallR, ↓bind_match, ↓reduceIte, Bool.false_eq_true, decide_true, Bool.or_self, Bool.false_eq_true, true_and, ABody, aResults, aResult, tupleOf, code31, rs31, e1, e2, e4, Option.isNone_some]
      have : l = [] := List.length_eq_zero_iff.1 hz
      subst this
      exact ⟨_, rfl, .inr ⟨H.next, 0, rfl, by simp [u8s], by omega, by omega⟩⟩
    · rw [if_neg hz] at e4
      simp (maxDischargeDepth := 40) only [Nat.reduceEqDiff, Nat.reduceLT, reduceCtorEq, WK_skip, WK_ret, WK_seq, WK_cond, WK_region, WLK_nil, WLK_cons, app_fin, app_seq_normal, Keep.refl, Keep.push, Option.some.injEq, exists_eq_left', AH.get_push, AH.next_push, want, dstOk, opR, opE, ev, evs, evParts, entry, argT, put_n, put_tmps, put_defers, selfRel, aNilNil, nilC_tmp, nilC_slice, opCallR, ↓bind_match, ↓reduceIte, Bool.false_eq_true, decide_true, Bool.or_self, Bool.false_eq_true, true_and, ABody, aResults, aResult, tupleOf, code31, rs31, e1, e2, e4, Option.isNone_some]
      refine ⟨_, rfl, .inr ⟨H.next + 1, unk, rfl, by simp, by omega, by omega⟩⟩

theorem drop_take_sub {α : Type} {cs : List α} {u : List α} {o k n : Nat} (h : (cs.drop o).take u.length = u) (hk : k + n ≤ u.length) : (cs.drop (o + k)).take n = (u.drop k).take n := by
  rw [← h]
  rw [← List.drop_drop, List.drop_take, List.take_take]
  congr 1
  omega

/-- The next bytes. -/
def TakeR (H : AH) (cb : Nat) (r : RdV) (n : Nat) : Ending → AH → Prop := fun en H' => KeepIf (· = cb) H H' ∧
    if r.s.length < n then en = .panicked [fault cb 2] ∧ CurAt H' cb r
    else ∃ b cap, en = .returned (.slice (some ⟨b, 0, none⟩) n cap) ∧ H'.get b = some (.cells (u8s (r.s.take n)) 5) ∧ H.next ≤ b ∧ b < H'.next ∧ CurAt H' cb ⟨r.s.drop n, r.pos + n, 0⟩

theorem take_walk {H : AH} {cb : Nat} {r : RdV} (h : CurAt H cb r) {n : Nat} (hn : 0 < n) (hn2 : n ≤ 1000) : ACalls P 94 [ptr cb, .int .i64 n] H (TakeR H cb r n) := by
  refine ACalls_K E (fnOf_ok P) mixed pur0_ok fn94 ok94 sx94 (by simp [nt94]) ?_
  simp only [nt94]
  have hc := h
  obtain ⟨h1, h2, v, l, h3, h4, h5, h6, h7⟩ := h
  have d0 : decide ((n : Int) ≤ 0) = false := by simp; omega
  simp (maxDischargeDepth := 40) only [Nat.reduceLT, reduceCtorEq, WK_seq, WK_region, WLK_nil, WLK_cons, app_seq_normal, List.cons_append, Nat.zero_add, want, dstOk, opR, opE, opC, ev, evs, entry, argT, put_n, put_tmps, selfRel, opCallR, ↓bind_match, ↓reduceIte, decide_true, true_and, List.cons_append, List.nil_append, code94, pur0, fn65, ex65]
  refine CallK_pure (dead_h hc) ?_
  have hlen : r.s.length = l.length - r.pos := by rw [h6, List.length_drop]
  have f1 : IntKind.i64.wrap ((l.length : Int) - (r.pos : Int)) = ((r.s.length : Nat) : Int) := by rw [wrap_i64 (by omega) (by omega)]; omega
  have e2 : ∀ a cap H, aLen E.ty H 23 (.slice a l.length cap) = some (.int .i64 l.length) := fun a cap H => aLen_slice ty23 rfl _ _ _
  by_cases hs : r.s.length < n
  · have d1 : decide ((n : Int) > ((r.s.length : Nat) : Int)) = true := by simp; omega
    have hw : ∃ a cap, v = .slice a l.length cap := by
      rcases h7 with ⟨rfl, rfl⟩ | ⟨b, o, cap, cs, rfl, _⟩
      · exact ⟨_, _, rfl⟩
      · exact ⟨_, _, rfl⟩
    obtain ⟨a, cap, rfl⟩ := hw
    simp (maxDischargeDepth := 40) only [Nat.reduceEqDiff, Nat.reduceLT, Nat.reduceLeDiff, reduceCtorEq, Nat.reduceAdd, Nat.reduceLeDiff,  WK_skip, WK_seq, WK_cond, WK_region, WK_draw, WLK_nil, WLK_cons, WPK_cons, app_seq_normal, WChks, WChk, evNewA, opRP, ne_eq, not_true_eq_false, List.take_succ_cons, List.drop_succ_cons, List.head?_cons, isAggD, aFieldAddr, aLoad, List.cons_append, List.take_zero, List.drop_zero, List.length_cons, List.length_nil, Nat.zero_add, AH.load, Nat.succ_ne_self, want, dstOk, opR, opE, opC, ev, evs, put_n, put_tmps, selfRel, aNilNil, nilC_tmp, nilC_int, opCallR, ↓bind_match, ↓reduceIte, Bool.false_eq_true, decide_true, Bool.or_self, beq_self_eq_true, Bool.false_eq_true, true_and, and_true, List.getElem?_toArray, List.getElem?_cons_zero, List.getElem?_cons_succ, List.cons_append, List.nil_append, aBin_int, intBin, ty3, ty23, ty83, pl94_3, d0, d1, h3, e2, f1, pur0, fn35, ex35]
    refine CallK_of (fail_walk hc (by decide)) (fun _ _ h => by cases h.1) (fun ch H' h => ?_) (fun _ h => by cases h.1)
    obtain ⟨h, rfl⟩ := h
    cases h
    simp (maxDischargeDepth := 40) only [app_fin, app_seq_panic, put_defers, true_and, ABody]
    unfold TakeR
    rw [if_pos hs]
    exact ⟨KeepIf.refl _ _, rfl, hc⟩
  · have d1 : decide ((n : Int) > ((r.s.length : Nat) : Int)) = false := by simp; omega
    rcases h7 with ⟨_, rfl⟩ | ⟨b, o, cap, cs, rfl, g1, g2, g3, g4, g5⟩
    · simp only [List.length_nil] at hlen; omega
    have f2 : IntKind.i64.wrap ((r.pos : Int) + (n : Int)) = ((r.pos + n : Nat) : Int) := by rw [wrap_i64 (by omega) (by omega)]; simp
    have f3 : IntKind.i64.wrap (((r.pos + n : Nat) : Int) - (n : Int)) = ((r.pos : Nat) : Int) := by rw [wrap_i64 (by omega) (by omega)]; omega
    obtain ⟨cap', e3⟩ : ∃ cap', ∀ H' : AH, H'.get b = some (.cells cs 5) → aSlice E.ty H' 23 (.slice (some ⟨b, o, none⟩) l.length cap) (some (.int .i64 (r.pos : Int))) (some (.int .i64 ((r.pos + n : Nat) : Int))) none =
        some (.slice (some ⟨b, o + r.pos, none⟩) (r.s.take n).length cap') := by
      refine ⟨if cap = unk then unk else cap - r.pos, fun H' hb => ?_⟩
      rw [aSlice_mid ty23 rfl ty5 hb (by omega) (by omega)]
      have : r.pos + n - r.pos = (r.s.take n).length := by simp only [List.length_take]; omega
      rw [this, Nat.mul_one]
    have hset : (H.set cb (some (.cells [.slice (some ⟨b, o, none⟩) l.length cap, .int .i64 ((r.pos + n : Nat) : Int), .bool true] 83))).get b = some (.cells cs 5) := by
      rw [AH.get_set_ne _ _ _ _ g1]; exact g2
    have e4 := e3 _ hset
    have m_0_1 : ¬ cb = b := by omega
    have m_1_0 : ¬ b = cb := by omega
    simp (maxDischargeDepth := 40) only [Nat.reduceEqDiff, Nat.reduceLT, Nat.reduceLeDiff, reduceCtorEq, Nat.reduceAdd, Nat.reduceLeDiff,  WK_skip, WK_seq, WK_cond, WK_region, WK_draw, WLK_nil, WLK_cons, WPK_cons, app_seq_normal, WChks, WChk, evNewA, opRP, ne_eq, not_true_eq_false, List.take_succ_cons, List.drop_succ_cons, List.head?_cons, isAggD, List.all_cons, List.all_nil, oc_int, cells_int, Bool.and_self, aFieldAddr, aLoad, aStore, List.cons_append, List.take_zero, List.drop_zero, List.length_cons, List.length_nil, Nat.zero_add, AH.load, AH.store, splice, AH.get_set, Nat.succ_ne_self, want, dstOk, opR, opE, opC, ev, evs, evO, put_n, put_tmps, put_none, selfRel, aNilNil, nilC_tmp, nilC_int, opCallR, ↓bind_match, ↓map_match, ↓reduceIte, Bool.false_eq_true, decide_true, Bool.or_self, beq_self_eq_true, Bool.false_eq_true, true_and, and_true, List.toList_toArray, List.size_toArray, List.getElem?_toArray, List.getElem?_cons_zero, List.getElem?_cons_succ, List.cons_append, List.nil_append, aBin_int, intBin, ty3, ty23, ty83, pl94_3, pl94_6, d0, d1, h3, e2, e4, f1, f2, f3, pur0, fn31, ex31]
    have hbv : BytesV (H.set cb (some (.cells [.slice (some ⟨b, o, none⟩) l.length cap, .int .i64 ((r.pos + n : Nat) : Int), .bool true] 83))) (.slice (some ⟨b, o + r.pos, none⟩) (r.s.take n).length cap') (r.s.take n) := by
      refine .inr ⟨b, o + r.pos, cap', cs, rfl, .inl hset, ?_, ?_, g5⟩
      · have hu : (u8s l).length = l.length := u8s_length l
        have := drop_take_sub (cs := cs) (u := u8s l) (o := o) (k := r.pos) (n := (r.s.take n).length) (by rw [hu]; exact g3) (by rw [hu]; simp only [List.length_take]; omega)
        rw [this, h6]
        simp only [u8s, List.map_take, List.map_drop, List.length_take, List.length_drop]
        rw [List.take_eq_take_min]
        congr 1
        simp only [List.length_drop, List.length_map]
        omega
      · simp only [List.length_take]; omega
    refine CallP_of (clone_walk hbv (by simp only [List.length_take]; omega)) (fun v' H' hR => ?_) (fun ch H' h => by obtain ⟨_, h, _⟩ := h; cases h) (fun _ h => by obtain ⟨_, h, _⟩ := h; cases h)
    obtain ⟨v', h, hk, hv⟩ := hR
    cases h
    have q1 : H'.get cb = some (.cells [.slice (some ⟨b, o, none⟩) l.length cap, .int .i64 ((r.pos + n : Nat) : Int), .bool true] 83) := by
      rw [hk.2 cb (by simp only [AH.next_set]; exact h2)]; exact AH.get_set_same _ _ _
    have q2 : H'.get b = some (.cells cs 5) := by
      rw [hk.2 b (by simp only [AH.next_set]; exact g5)]; exact hset
    have e5 := e3 _ q2
    have hkn := hk.1
    simp only [AH.next_set] at hkn
    simp (maxDischargeDepth := 40) only [Nat.reduceEqDiff, Nat.reduceLT, Nat.reduceLeDiff, reduceCtorEq, Nat.reduceAdd, Nat.reduceLeDiff,  WK_ret, WPK_cons, app_fin, app_seq_normal, WChks, WChk, evNewA, opRP, ne_eq, not_true_eq_false, List.take_succ_cons, List.drop_succ_cons, List.head?_cons, isAggD, aFieldAddr, aLoad, List.cons_append, List.take_zero, List.drop_zero, List.length_cons, List.length_nil, Nat.zero_add, Option.some.injEq, exists_eq_left', AH.load, Nat.succ_ne_self, want, dstOk, opR, ev, put_n, put_tmps, put_defers, aNilNil, nilC_tmp, ↓bind_match, ↓reduceIte, Bool.false_eq_true, decide_true, Bool.or_self, Bool.false_eq_true, true_and, and_true, List.getElem?_toArray, List.getElem?_cons_zero, List.getElem?_cons_succ, List.cons_append, List.nil_append, ABody, aResults, aResult, tupleOf, rs94, aBin_int, intBin, ty3, ty23, ty83, q1, f3]
    unfold TakeR
    rw [if_neg hs]
    refine ⟨⟨hkn, fun c hc1 hc2 => ?_⟩, ?_⟩
    · rw [hk.2 c (by simp only [AH.next_set]; exact hc1), AH.get_set_ne _ _ _ _ hc2]
    · rcases hv with ⟨_, hz⟩ | ⟨b', cap2, rfl, hb', hb2, hb3⟩
      · have : (r.s.take n).length = 0 := by rw [hz]; rfl
        simp only [List.length_take] at this
        omega
      · have hln : (r.s.take n).length = n := by simp only [List.length_take]; omega
        rw [hln]
        refine ⟨b', cap2, rfl, hb', by simp only [AH.next_set] at hb2; exact hb2, hb3, rfl, by omega, _, l, q1, h4, by simp only; omega, ?_, .inr ⟨b, o, cap, cs, rfl, g1, q2, g3, g4, by omega⟩⟩
        simp only [h6, List.drop_drop]

end Go.Am.Q

/- Readings of bytes: numbers. -/
set_option linter.unusedSimpArgs false
set_option linter.unusedSectionVars false
set_option maxRecDepth 20000
namespace Go.Am.Q
open Go Go.Am Go.Proofs
variable [F : Fr]

/-- What a reading answers, or why it stops. -/
def CurR {α : Type} (H : AH) (cb : Nat) (q : RdV × α) (mk : α → Value) : Ending → AH → Prop := fun en H' => KeepIf (· = cb) H H' ∧
  if q.1.e = 0 then en = .returned (mk q.2) ∧ CurAt H' cb q.1 else en = .panicked [fault cb q.1.e] ∧ ∃ r', CurAt H' cb r'

theorem leB_snoc : ∀ (l : List UInt8) (b : UInt8), leB (l ++ [b]) = leB l + b.toNat * 256 ^ l.length := by
  intro l b
  induction l with
  | nil => simp [leB]
  | cons c l ih =>
    simp only [List.cons_append, leB, ih, List.length_cons, Nat.pow_succ]
    rw [Nat.mul_add, ← Nat.mul_assoc, ← Nat.mul_assoc]
    have : 256 * b.toNat * 256 ^ l.length = b.toNat * 256 ^ l.length * 256 := by rw [Nat.mul_comm 256, Nat.mul_assoc, Nat.mul_assoc, Nat.mul_comm 256]
    omega

theorem or_shift {x b i : Nat} (hx : x < 256 ^ i) (hb : b < 256) (hi : i < 8) :
    IntKind.u64.wrap ((BitVec.ofInt IntKind.u64.bits (x : Int) ||| BitVec.ofInt IntKind.u64.bits (IntKind.u64.wrap ((b : Int) * 2 ^ min (8 * i) IntKind.u64.bits))).toNat : Int) = ((x + b * 256 ^ i : Nat) : Int) := by
  have hb64 : IntKind.u64.bits = 64 := rfl
  have hm : min (8 * i) 64 = 8 * i := by omega
  have hp : (256 : Nat) ^ i = 2 ^ (8 * i) := by rw [show (256 : Nat) = 2 ^ 8 from rfl, ← Nat.pow_mul]
  have hp7 : (256 : Nat) ^ i ≤ 256 ^ 7 := Nat.pow_le_pow_right (by decide) (by omega)
  have e7 : (256 : Nat) ^ 7 = 72057594037927936 := by decide
  have hbl : b * 256 ^ i ≤ 255 * 256 ^ i := Nat.mul_le_mul_right _ (by omega)
  rw [hb64, hm]
  have e1 : (b : Int) * 2 ^ (8 * i) = ((b * 256 ^ i : Nat) : Int) := by rw [hp]; simp
  rw [e1, wrap_u64, wrap_u64, Nat.mod_eq_of_lt (a := b * 256 ^ i) (by omega)]
  congr 1
  rw [BitVec.toNat_or, BitVec.toNat_ofInt, BitVec.toNat_ofInt]
  have g1 : ((x : Int) % ((2 ^ 64 : Nat) : Int)).toNat = x := by
    have : ((2 ^ 64 : Nat) : Int) = 18446744073709551616 := by decide
    omega
  have g2 : (((b * 256 ^ i : Nat) : Int) % ((2 ^ 64 : Nat) : Int)).toNat = b * 256 ^ i := by
    have : ((2 ^ 64 : Nat) : Int) = 18446744073709551616 := by decide
    omega
  rw [g1, g2, Nat.or_comm, hp]
  rw [hp] at hx
  have := Nat.two_pow_add_eq_or_of_lt hx b
  rw [Nat.mul_comm b, ← this]
  rw [hp] at hp7 hbl
  rw [Nat.mod_eq_of_lt (by rw [Nat.mul_comm]; omega)]
  omega

theorem num_walk {H0 : AH} {cb : Nat} {r : RdV} (h : CurAt H0 cb r) {n : Nat} (hn : 0 < n) (hn2 : n ≤ 8) : ACalls P 64 [ptr cb, .int .i64 n] H0 (CurR H0 cb (getR r n) fun x => .int .u64 x) := by
  refine ACalls_K E (fnOf_ok P) mixed pur0_ok fn64 ok64 sx64 (by simp [nt64]) ?_
  simp only [nt64]
  have hre := h.1
  have d0 : ¬ (r.e ≠ 0 ∨ n = 0) := by omega
  simp (maxDischargeDepth := 40) only [Nat.reduceEqDiff, Nat.reduceLT, reduceCtorEq, WK_seq, WK_region, WLK_nil, WLK_cons, app_seq_normal, List.cons_append, Nat.zero_add, Nat.succ_ne_self, want, dstOk, opR, opE, opC, ev, evs, entry, argT, put_n, put_tmps, selfRel, opCallR, ↓bind_match, ↓reduceIte, decide_true, true_and, List.cons_append, List.nil_append, code64, pur0, fn94, ex94]
  by_cases hs : r.s.length < n
  · have hg : getR r n = (⟨r.s, r.pos, 2⟩, 0) := by unfold getR takeR; rw [if_neg d0, if_pos hs]; rfl
    refine CallK_of (take_walk h hn (by omega)) (fun v H' hR => ?_) (fun ch H' hR => ?_) (fun H' hR => ?_)
    · unfold TakeR at hR; rw [if_pos hs] at hR; cases hR.2.1
    · unfold TakeR at hR
      rw [if_pos hs] at hR
      obtain ⟨hk, hR, hcur⟩ := hR
      cases hR
      simp (maxDischargeDepth := 40) only [app_fin, app_seq_panic, put_defers, true_and, ABody]
      rw [hg]
      exact ⟨hk, by rw [if_neg (show ¬ (2 : Nat) = 0 by decide)]; exact ⟨rfl, _, hcur⟩⟩
    · unfold TakeR at hR; rw [if_pos hs] at hR; cases hR.2.1
  · have hg : getR r n = (⟨r.s.drop n, r.pos + n, 0⟩, leB (r.s.take n)) := by unfold getR takeR; rw [if_neg d0, if_neg hs]
    refine CallK_of (take_walk h hn (by omega)) (fun v H' hR => ?_) (fun ch H' hR => ?_) (fun H' hR => ?_)
    · unfold TakeR at hR
      rw [if_neg hs] at hR
      obtain ⟨hk, b, cap, hv, hb, hlo, hhi, hcur⟩ := hR
      cases hv
      have hln : (r.s.take n).length = n := by simp only [List.length_take]; omega
      have e2 : ∀ a cap H, aLen E.ty H 23 (.slice a n cap) = some (.int .i64 n) := fun a cap H => aLen_slice ty23 rfl _ _ _
      rw [hg]
      generalize hS : r.s.take n = S at hb hln
      generalize (⟨r.s.drop n, r.pos + n, 0⟩ : RdV) = q at hcur
      simp (maxDischargeDepth := 40) only [Nat.reduceLT, WK_block, WK_loop, WLK_nil, WLK_cons, app_seq_normal, want, dstOk, opR, ev, evs, put_n, put_tmps, selfRel, opCallR, ↓bind_match, ↓reduceIte, decide_true, true_and, e2]
      refine ⟨fun m a H => H = H' ∧ ∃ i, i + m = n ∧ a.n = 26 ∧ a.defers = [] ∧ a.tmps 5 = some (.int .u64 (leB (S.take i) : Nat)) ∧ a.tmps 10 = some (.slice (some ⟨b, 0, none⟩) n cap) ∧
        a.tmps 11 = some (.int .i64 n) ∧ a.tmps 12 = some (.int .i64 i), n, ?_, ?_⟩
      · refine ⟨rfl, 0, by omega, ?_⟩
        simp (maxDischargeDepth := 40) only [Nat.reduceEqDiff, List.take_zero, Option.some.injEq, put_n, put_tmps, put_defers, ↓reduceIte, true_and, leB]
        exact ⟨rfl, rfl⟩
      · rintro m a H ⟨rfl, i, him, hn', hd, h5, h10, h11, h12⟩
        by_cases hi : i < n
        · have d1 : decide ((i : Int) < (n : Int)) = true := by simp; omega
          obtain ⟨x, hx⟩ : ∃ x, S[i]? = some x := ⟨_, List.getElem?_eq_getElem (by omega)⟩
          obtain ⟨s1, s2⟩ := take_one (u8s_get hx)
          have e3 : aIndexAddr E.ty 23 (.slice (some ⟨b, 0, none⟩) n cap) (.int .i64 (i : Int)) = some (.pointer (some ⟨b, i, none⟩)) := by
            rw [aIndexAddr_slice ty23 rfl ty5 hi]; simp
          have f1 : IntKind.i64.wrap (8 * (i : Int)) = ((8 * i : Nat) : Int) := by rw [wrap_i64 (by omega) (by omega)]; simp
          have f2 : IntKind.u64.wrap (x.toNat : Int) = (x.toNat : Int) := by
            have := x.toNat_lt
            rw [wrap_u64, Nat.mod_eq_of_lt (by omega)]
          have f3 : IntKind.i64.wrap ((i : Int) + 1) = ((i + 1 : Nat) : Int) := by rw [wrap_i64 (by omega) (by omega)]; simp
          have f4 : ¬ ((8 * i : Nat) : Int) < 0 := by omega
          have hlt : leB (S.take i) < 256 ^ i := by
            have := leB_lt (S.take i)
            rw [List.length_take, Nat.min_eq_left (by omega)] at this
            exact this
          have f5 := or_shift (x := leB (S.take i)) (b := x.toNat) (i := i) hlt x.toNat_lt (by omega)
          have f6 : leB (S.take (i + 1)) = leB (S.take i) + x.toNat * 256 ^ i := by
            rw [List.take_add_one, hx]
            have := leB_snoc (S.take i) x
            rw [List.length_take, Nat.min_eq_left (by omega)] at this
            exact this
          simp (maxDischargeDepth := 40) only [Nat.reduceEqDiff, Nat.reduceLT, WK_skip, WK_seq, WK_cond, WK_block, WK_region, WLK_nil, WLK_cons, app_seq_normal, app_block_normal, app_inv_normal, ne_eq, not_true_eq_false, List.head?_cons, isAggD, aLoad, Option.some.injEq, aConvert, AH.load, want, dstOk, opR, ev, put_n, put_tmps, put_defers, selfRel, aNilNil, nilC_tmp, nilC_int, ↓bind_match, ↓reduceIte, Bool.false_eq_true, decide_true, Bool.or_self, Bool.false_eq_true, true_and, body64_0, aBin_int, intBin, ty5, ty30, hn', hd, h5, h10, h11, h12, d1, e3, hb, s1, s2, f1, f2, f3, f4, Int.toNat_natCast, f5]
          exact ⟨m - 1, by omega, i + 1, by omega, by rw [f6], rfl⟩
        · have d1 : decide ((i : Int) < (n : Int)) = false := by simp; omega
          have hin : i = n := by omega
          subst hin
          have : S.take i = S := List.take_of_length_le (by omega)
          rw [this] at h5
          simp (maxDischargeDepth := 40) only [Nat.reduceEqDiff, Nat.reduceLT, WK_exit, WK_ret, WK_seq, WK_cond, WK_region, WLK_nil, WLK_cons, app_fin, app_seq_normal, app_seq_exit, app_block_exit, app_inv_exit, ne_eq, not_true_eq_false, Option.some.injEq, exists_eq_left', want, dstOk, opR, ev, put_n, put_tmps, put_defers, aNilNil, nilC_tmp, ↓bind_match, ↓reduceIte, Bool.false_eq_true, decide_true, Bool.or_self, Bool.false_eq_true, true_and, ABody, aResults, aResult, tupleOf, body64_0, rs64, aBin_int, intBin, hn', hd, h5, h11, h12, d1]
          refine ⟨hk, ?_⟩
          rw [if_pos (show q.e = 0 from hcur.1)]
          exact ⟨rfl, hcur⟩
    · unfold TakeR at hR
      rw [if_neg hs] at hR
      obtain ⟨hk, b, cap, hv, _⟩ := hR
      cases hv
    · unfold TakeR at hR
      rw [if_neg hs] at hR
      obtain ⟨hk, b, cap, hv, _⟩ := hR
      cases hv

section
variable {pur : PureF} {pls : Plans} {k : Kont} {a : AAct} {H : AH} {cb : Nat} {g : FuncId} {args : List Value} {ops : Array Oper} {d : Option Tmp}

theorem CallK_cur {α : Type} {q : RdV × α} {mk : α → Value} {rest : List Oper} (h : ACalls P g args H (CurR H cb q mk))
    (hk : q.1.e = 0 → ∀ H', KeepIf (· = cb) H H' → CurAt H' cb q.1 → WLK E (fnOf P) pur pls ops k rest (a.put d (mk q.2)) H')
    (hp : q.1.e ≠ 0 → ∀ H' r', KeepIf (· = cb) H H' → CurAt H' cb r' → app E (fnOf P) pur pls k (.panic [fault cb q.1.e]) a H') : CallK E (fnOf P) pur pls g args H ops k rest a d := by
  by_cases he : q.1.e = 0
  · refine CallK_of h (fun v H' hR => ?_) (fun ch H' hR => ?_) (fun H' hR => ?_)
    · obtain ⟨h1, h2⟩ := hR
      rw [if_pos he] at h2
      cases h2.1
      exact hk he H' h1 h2.2
    · have := hR.2; rw [if_pos he] at this; cases this.1
    · have := hR.2; rw [if_pos he] at this; cases this.1
  · refine CallK_of h (fun v H' hR => ?_) (fun ch H' hR => ?_) (fun H' hR => ?_)
    · have := hR.2; rw [if_neg he] at this; cases this.1
    · obtain ⟨h1, h2⟩ := hR
      rw [if_neg he] at h2
      obtain ⟨h2, r', h3⟩ := h2
      cases h2
      exact hp he H' r' h1 h3
    · have := hR.2; rw [if_neg he] at this; cases this.1

theorem CallP_cur {α : Type} {q : RdV × α} {mk : α → Value} {rest : List Stage} (h : ACalls P g args H (CurR H cb q mk))
    (hk : q.1.e = 0 → ∀ H', KeepIf (· = cb) H H' → CurAt H' cb q.1 → WPK E (fnOf P) pur pls ops k rest (a.put d (mk q.2)) H')
    (hp : q.1.e ≠ 0 → ∀ H' r', KeepIf (· = cb) H H' → CurAt H' cb r' → app E (fnOf P) pur pls k (.panic [fault cb q.1.e]) a.forget H') : CallP E (fnOf P) pur pls g args H ops k rest a d := by
  by_cases he : q.1.e = 0
  · refine CallP_of h (fun v H' hR => ?_) (fun ch H' hR => ?_) (fun H' hR => ?_)
    · obtain ⟨h1, h2⟩ := hR
      rw [if_pos he] at h2
      cases h2.1
      exact hk he H' h1 h2.2
    · have := hR.2; rw [if_pos he] at this; cases this.1
    · have := hR.2; rw [if_pos he] at this; cases this.1
  · refine CallP_of h (fun v H' hR => ?_) (fun ch H' hR => ?_) (fun H' hR => ?_)
    · have := hR.2; rw [if_neg he] at this; cases this.1
    · obtain ⟨h1, h2⟩ := hR
      rw [if_neg he] at h2
      obtain ⟨h2, r', h3⟩ := h2
      cases h2
      exact hp he H' r' h1 h3
    · have := hR.2; rw [if_neg he] at this; cases this.1

theorem CallK_fail {rest : List Oper} {r : RdV} {e : Nat} (h : CurAt H cb r) (he : e ≠ 0) (hp : app E (fnOf P) pur pls k (.panic [fault cb e]) a H) :
    CallK E (fnOf P) pur pls 35 [ptr cb, .int .i64 (e : Int)] H ops k rest a d := by
  refine CallK_of (fail_walk h he) (fun _ _ h => by cases h.1) (fun ch H' h => ?_) (fun _ h => by cases h.1)
  obtain ⟨h5, rfl⟩ := h
  injection h5 with h6
  rw [h6]
  exact hp
end

theorem CurR_ok {α : Type} {H H' : AH} {cb : Nat} {q : RdV × α} {mk : α → Value} (he : q.1.e = 0) (hk : KeepIf (· = cb) H H') (hc : CurAt H' cb q.1) : CurR H cb q mk (.returned (mk q.2)) H' :=
  ⟨hk, by rw [if_pos he]; exact ⟨rfl, hc⟩⟩

theorem CurR_fault {α : Type} {H H' : AH} {cb : Nat} {q : RdV × α} {mk : α → Value} {e : Nat} {r' : RdV} (he : q.1.e = e) (h0 : e ≠ 0) (hk : KeepIf (· = cb) H H') (hc : CurAt H' cb r') :
    CurR H cb q mk (.panicked [fault cb e]) H' := by
  subst he
  exact ⟨hk, by rw [if_neg h0]; exact ⟨rfl, r', hc⟩⟩

theorem byte_walk {H0 : AH} {cb : Nat} {r : RdV} (h : CurAt H0 cb r) : ACalls P 34 [ptr cb] H0 (CurR H0 cb (getR r 1) fun x => .int .u8 x) := by
  refine ACalls_K E (fnOf_ok P) mixed pur0_ok fn34 ok34 sx34 (by simp [nt34]) ?_
  simp only [nt34]
  have hb := getR1_lt r
  have hw : IntKind.u8.wrap ((getR r 1).2 : Int) = ((getR r 1).2 : Int) := by rw [wrap_u8, Nat.mod_eq_of_lt hb]
  simp (maxDischargeDepth := 40) only [Nat.reduceLT, reduceCtorEq, WK_seq, WK_region, WLK_nil, WLK_cons, app_seq_normal, List.cons_append, want, dstOk, opR, opE, opC, ev, evs, entry, argT, put_n, put_tmps, selfRel, opCallR, ↓bind_match, ↓reduceIte, decide_true, true_and, List.cons_append, List.nil_append, code34, pur0, fn64, ex64]
  refine CallK_cur (num_walk h (by decide) (by decide)) (fun he H' hk hc => ?_) (fun he H' r' hk hc => ?_)
  · simp (maxDischargeDepth := 40) only [Nat.reduceLT, WK_ret, WLK_nil, WLK_cons, app_fin, app_seq_normal, Option.some.injEq, exists_eq_left', aConvert, want, dstOk, opR, ev, put_n, put_tmps, put_defers, ↓bind_match, ↓reduceIte, decide_true, true_and, ABody, aResults, aResult, tupleOf, rs34, ty5, ty30, hw]
    exact CurR_ok he hk hc
  · simp (maxDischargeDepth := 40) only [app_fin, app_seq_panic, put_defers, true_and, ABody]
    exact CurR_fault rfl he hk hc

theorem eight_walk {H0 : AH} {cb : Nat} {r : RdV} (h : CurAt H0 cb r) : ACalls P 67 [ptr cb] H0 (CurR H0 cb (getR r 8) fun x => .int .u64 x) := by
  refine ACalls_K E (fnOf_ok P) mixed pur0_ok fn67 ok67 sx67 (by simp [nt67]) ?_
  simp only [nt67]
  simp (maxDischargeDepth := 40) only [Nat.reduceLT, reduceCtorEq, WK_seq, WK_region, WLK_nil, WLK_cons, app_seq_normal, List.cons_append, want, dstOk, opR, opE, opC, ev, evs, entry, argT, put_n, put_tmps, selfRel, opCallR, ↓bind_match, ↓reduceIte, decide_true, true_and, List.cons_append, List.nil_append, code67, pur0, fn64, ex64]
  refine CallK_cur (num_walk h (by decide) (by decide)) (fun he H' hk hc => ?_) (fun he H' r' hk hc => ?_)
  · simp (maxDischargeDepth := 40) only [Nat.reduceLT, WK_ret, WLK_nil, WLK_cons, app_fin, app_seq_normal, Option.some.injEq, exists_eq_left', want, dstOk, opR, ev, put_n, put_tmps, put_defers, ↓reduceIte, decide_true, true_and, ABody, aResults, aResult, tupleOf, rs67]
    exact CurR_ok he hk hc
  · simp (maxDischargeDepth := 40) only [app_fin, app_seq_panic, put_defers, true_and, ABody]
    exact CurR_fault rfl he hk hc

theorem andNot_128 {b : Nat} (h : b < 256) : IntKind.u8.wrap ((BitVec.ofInt IntKind.u8.bits (b : Int) &&& ~~~BitVec.ofInt IntKind.u8.bits 128).toNat : Int) = ((b % 128 : Nat) : Int) := by
  have key : ∀ b : Fin 256, IntKind.u8.wrap ((BitVec.ofInt IntKind.u8.bits ((b : Nat) : Int) &&& ~~~BitVec.ofInt IntKind.u8.bits 128).toNat : Int) = (((b : Nat) % 128 : Nat) : Int) := by decide +kernel
  exact key ⟨b, h⟩

theorem or_shift7 {x b i : Nat} (hx : x < 128 ^ i) (hb : b < 128) (hi : i < 9 ∨ i = 9 ∧ b ≤ 1) :
    IntKind.u64.wrap ((BitVec.ofInt IntKind.u64.bits (x : Int) ||| BitVec.ofInt IntKind.u64.bits (IntKind.u64.wrap ((b : Int) * 2 ^ min (7 * i) IntKind.u64.bits))).toNat : Int) = ((x + b * 128 ^ i : Nat) : Int) := by
  have hb64 : IntKind.u64.bits = 64 := rfl
  have hm : min (7 * i) 64 = 7 * i := by omega
  have hp : (128 : Nat) ^ i = 2 ^ (7 * i) := by rw [show (128 : Nat) = 2 ^ 7 from rfl, ← Nat.pow_mul]
  have hbl : x + b * 128 ^ i < 18446744073709551616 := by
    rcases hi with hi | ⟨rfl, hb1⟩
    · have hp8 : (128 : Nat) ^ i ≤ 128 ^ 8 := Nat.pow_le_pow_right (by decide) (by omega)
      have e8 : (128 : Nat) ^ 8 = 72057594037927936 := by decide
      have : b * 128 ^ i ≤ 127 * 128 ^ i := Nat.mul_le_mul_right _ (by omega)
      omega
    · have e9 : (128 : Nat) ^ 9 = 9223372036854775808 := by decide
      have : b * 128 ^ 9 ≤ 1 * 128 ^ 9 := Nat.mul_le_mul_right _ hb1
      omega
  rw [hb64, hm]
  have e1 : (b : Int) * 2 ^ (7 * i) = ((b * 128 ^ i : Nat) : Int) := by rw [hp]; simp
  rw [e1, wrap_u64, wrap_u64, Nat.mod_eq_of_lt (a := b * 128 ^ i) (by omega)]
  congr 1
  rw [BitVec.toNat_or, BitVec.toNat_ofInt, BitVec.toNat_ofInt]
  have g1 : ((x : Int) % ((2 ^ 64 : Nat) : Int)).toNat = x := by
    have : ((2 ^ 64 : Nat) : Int) = 18446744073709551616 := by decide
    omega
  have g2 : (((b * 128 ^ i : Nat) : Int) % ((2 ^ 64 : Nat) : Int)).toNat = b * 128 ^ i := by
    have : ((2 ^ 64 : Nat) : Int) = 18446744073709551616 := by decide
    omega
  rw [g1, g2, Nat.or_comm]
  have hx' : x < 2 ^ (7 * i) := by rw [← hp]; exact hx
  have := Nat.two_pow_add_eq_or_of_lt hx' b
  rw [hp, Nat.mul_comm b, ← this]
  rw [hp, Nat.mul_comm b] at hbl
  rw [Nat.mod_eq_of_lt (by omega)]
  omega

/-- A number of as few bytes as can be. -/
theorem vget_walk {H0 : AH} {cb : Nat} {r0 : RdV} (h0 : CurAt H0 cb r0) (hok0 : r0.Ok) : ACalls P 63 [ptr cb] H0 (CurR H0 cb (varR r0) fun x => .int .u64 x) := by
  refine ACalls_K E (fnOf_ok P) mixed pur0_ok fn63 ok63 sx63 (by simp [nt63]) ?_
  simp only [nt63]
  unfold varR
  generalize hw : varL 10 0 0 r0 = w
  simp (maxDischargeDepth := 40) only [Nat.reduceLT, WK_seq, WK_block, WK_loop, WK_region, WLK_nil, WLK_cons, app_seq_normal, want, dstOk, opR, ev, entry, argT, put_n, selfRel, ↓reduceIte, decide_true, true_and, code63]
  refine ⟨fun m a H => ∃ (i x : Nat) (r : RdV), i + m = 10 ∧ r.Ok ∧ x < 128 ^ i ∧ varL m i x r = w ∧ (m = 0 → r.e = 0) ∧ a.n = 40 ∧ a.defers = [] ∧ a.tmps 0 = some (ptr cb) ∧
    a.tmps 3 = some (.int .u64 x) ∧ a.tmps 6 = some (.int .i64 i) ∧ CurAt H cb r ∧ KeepIf (· = cb) H0 H, 10, ?_, ?_⟩
  · refine ⟨0, 0, r0, by omega, hok0, by decide, hw, by omega, ?_⟩
    simp (maxDischargeDepth := 40) only [Nat.reduceEqDiff, reduceCtorEq, Option.some.injEq, put_n, put_tmps, put_defers, ↓reduceIte, true_and]
    exact ⟨rfl, rfl, h0, KeepIf.refl _ _⟩
  · rintro m a H ⟨i, x, r, him, hr, hx, hv, hm0, hn, hd, t0, t3, t6, hcur, hK⟩
    clear hw
    cases m with
    | zero =>
      have d0 : decide ((i : Int) < 10) = false := by simp; omega
      subst hv
      simp (maxDischargeDepth := 40) only [Nat.reduceEqDiff, Nat.reduceLT, WK_exit, WK_ret, WK_seq, WK_cond, WK_region, WLK_nil, WLK_cons, app_fin, app_seq_normal, app_seq_exit, app_block_exit, app_inv_exit, ne_eq, not_true_eq_false, Option.some.injEq, exists_eq_left', want, dstOk, opR, ev, put_n, put_tmps, put_defers, selfRel, aNilNil, nilC_tmp, nilC_int, ↓bind_match, ↓reduceIte, Bool.false_eq_true, decide_true, Bool.or_self, Bool.false_eq_true, true_and, ABody, aResults, aResult, tupleOf, body63_0, rs63, aBin_int, intBin, hn, hd, t3, t6, d0, varL]
      exact CurR_ok (q := (r, x)) (mk := fun x => .int .u64 x) hcur.1 hK hcur
    | succ m =>
    have d0 : decide ((i : Int) < 10) = true := by simp; omega
    have hb := getR1_lt r
    have hq := getR_ok hr 1
    rw [varL] at hv
    simp (maxDischargeDepth := 40) only [Nat.reduceEqDiff, Nat.reduceLT, reduceCtorEq, WK_skip, WK_seq, WK_cond, WK_block, WK_region, WLK_nil, WLK_cons, app_seq_normal, ne_eq, not_true_eq_false, List.cons_append, want, dstOk, opR, opE, opC, ev, evs, put_n, put_tmps, selfRel, aNilNil, nilC_tmp, nilC_int, opCallR, ↓bind_match, ↓reduceIte, Bool.false_eq_true, decide_true, Bool.or_self, Bool.false_eq_true, true_and, List.cons_append, List.nil_append, body63_0, aBin_int, intBin, hn, t0, t6, d0, pur0, fn34, ex34]
    refine CallK_cur (byte_walk hcur) (fun he H' hk hc => ?_) (fun he H' r' hk hc => ?_)
    rotate_left
    · rw [if_pos he] at hv
      subst hv
      simp (maxDischargeDepth := 40) only [app_fin, app_seq_panic, app_block_panic, app_inv_panic, put_defers, true_and, ABody, hd]
      exact CurR_fault rfl he (hK.trans hk) hc
    rw [if_neg (by omega)] at hv
    generalize hg : getR r 1 = g at hb hq hv he hc
    obtain ⟨q, b⟩ := g
    simp only at hb hq hv he hc
    have hKK := hK.trans hk
    by_cases h9a : i = 9 ∧ 1 < b
    · rw [if_pos h9a] at hv
      subst hv
      have d1 : ((i : Int) == 9) = true := by simp; omega
      have d2 : decide ((b : Int) > 1) = true := by simp; omega
      simp (maxDischargeDepth := 40) only [Nat.reduceEqDiff, Nat.reduceLT, reduceCtorEq, WK_seq, WK_cond, WK_region, WLK_nil, WLK_cons, app_seq_normal, ne_eq, not_true_eq_false, List.cons_append, want, dstOk, opR, opE, opC, ev, evs, put_n, put_tmps, selfRel, aNilNil, nilC_tmp, nilC_int, opCallR, ↓bind_match, ↓reduceIte, Bool.false_eq_true, decide_true, Bool.or_self, beq_self_eq_true, Bool.false_eq_true, true_and, List.getElem?_toArray, List.getElem?_cons_zero, List.getElem?_cons_succ, List.cons_append, List.nil_append, aBin_int, intBin, hn, t0, d1, d2, pur0, fn35, ex35]
      refine CallK_fail (e := 3) hc (by decide) ?_
      simp (maxDischargeDepth := 40) only [app_fin, app_seq_panic, app_block_panic, app_inv_panic, put_defers, true_and, ABody, hd]
      exact CurR_fault (e := 3) (by simp [failR, he]) (by decide) hKK hc
    · rw [if_neg h9a] at hv
      have d12 : ((i : Int) == 9) = false ∨ ((i : Int) == 9) = true ∧ decide ((b : Int) > 1) = false := by
        by_cases h : i = 9
        · right; constructor
          · simp; omega
          · simp; omega
        · left; simp; omega
      have hb128 : b % 128 ≤ b := Nat.mod_le _ _
      have hm3 : x + b % 128 * 128 ^ i < 128 ^ (i + 1) := by
        have h3 : b % 128 * 128 ^ i ≤ 127 * 128 ^ i := Nat.mul_le_mul_right _ (by omega)
        have h4 : 128 ^ (i + 1) = 128 * 128 ^ i := by rw [Nat.pow_succ, Nat.mul_comm]
        omega
      have f1 := andNot_128 hb
      have f2 : IntKind.u64.wrap ((b % 128 : Nat) : Int) = ((b % 128 : Nat) : Int) := by rw [wrap_u64, Nat.mod_eq_of_lt (by omega)]
      have f3 : IntKind.i64.wrap (7 * (i : Int)) = ((7 * i : Nat) : Int) := by rw [wrap_i64 (by omega) (by omega)]; simp
      have f4 : ¬ ((7 * i : Nat) : Int) < 0 := by omega
      have f5 := or_shift7 (x := x) (b := b % 128) (i := i) hx (by omega) (by omega)
      have f6 : IntKind.i64.wrap ((i : Int) + 1) = ((i + 1 : Nat) : Int) := by rw [wrap_i64 (by omega) (by omega)]; simp
      by_cases hm : 128 ≤ b
      · rw [if_pos hm] at hv
        have d3 : decide ((b : Int) ≥ 128) = true := by simp; omega
        have fin : ∃ m' < m + 1, ∃ i' x' r', i' + m' = 10 ∧ r'.Ok ∧ x' < 128 ^ i' ∧ varL m' i' x' r' = w ∧ (m' = 0 → r'.e = 0) ∧ ((x + b % 128 * 128 ^ i : Nat) : Int) = (x' : Int) ∧ ((i + 1 : Nat) : Int) = (i' : Int) ∧ CurAt H' cb r' ∧ KeepIf (· = cb) H0 H' :=
          ⟨m, by omega, i + 1, _, q, by omega, hq, hm3, hv, fun _ => he, rfl, rfl, hc, hKK⟩
        rcases d12 with d1 | ⟨d1, d2⟩
        · simp (maxDischargeDepth := 40) only [Nat.reduceEqDiff, Nat.reduceLT, reduceCtorEq, WK_skip, WK_exit, WK_seq, WK_cond, WK_region, WLK_nil, WLK_cons, app_seq_normal, app_seq_exit, app_block_exit, app_inv_normal, ne_eq, not_true_eq_false, Option.some.injEq, aConvert, Nat.succ_ne_self, want, dstOk, opR, ev, put_n, put_tmps, put_defers, selfRel, aNilNil, nilC_tmp, nilC_int, ↓bind_match, ↓reduceIte, Bool.false_eq_true, decide_true, Bool.or_self, beq_true, Bool.false_eq_true, true_and, List.getElem?_toArray, List.getElem?_cons_zero, List.getElem?_cons_succ, aBin_int, intBin, ty5, ty30, hn, hd, t0, t3, t6, d1, d3, f1, f2, f3, f4, Int.toNat_natCast, f5, f6, Value.int.injEq]
          exact fin
        · simp (maxDischargeDepth := 40) only [Nat.reduceEqDiff, Nat.reduceLT, reduceCtorEq, WK_skip, WK_exit, WK_seq, WK_cond, WK_region, WLK_nil, WLK_cons, app_seq_normal, app_seq_exit, app_block_exit, app_inv_normal, ne_eq, not_true_eq_false, Option.some.injEq, aConvert, Nat.succ_ne_self, want, dstOk, opR, ev, put_n, put_tmps, put_defers, selfRel, aNilNil, nilC_tmp, nilC_int, ↓bind_match, ↓reduceIte, Bool.false_eq_true, decide_true, Bool.or_self, beq_self_eq_true, Bool.false_eq_true, true_and, List.getElem?_toArray, List.getElem?_cons_zero, List.getElem?_cons_succ, aBin_int, intBin, ty5, ty30, hn, hd, t0, t3, t6, d1, d2, d3, f1, f2, f3, f4, Int.toNat_natCast, f5, f6, Value.int.injEq]
          exact fin
      · rw [if_neg hm] at hv
        have d3 : decide ((b : Int) ≥ 128) = false := by simp; omega
        by_cases hz : b = 0 ∧ 0 < i
        · rw [if_pos hz] at hv
          subst hv
          have d4 : ((b : Int) == 0) = true := by simp; omega
          have d5 : decide ((i : Int) > 0) = true := by simp; omega
          rcases d12 with d1 | ⟨d1, d2⟩
          · simp (maxDischargeDepth := 40) only [Nat.reduceEqDiff, Nat.reduceLT, reduceCtorEq, WK_skip, WK_seq, WK_cond, WK_region, WLK_nil, WLK_cons, app_seq_normal, ne_eq, not_true_eq_false, List.cons_append, aConvert, Nat.succ_ne_self, want, dstOk, opR, opE, opC, ev, evs, put_n, put_tmps, selfRel, aNilNil, nilC_tmp, nilC_int, opCallR, ↓bind_match, ↓reduceIte, Bool.false_eq_true, decide_true, Bool.or_self, beq_self_eq_true, beq_true, Bool.false_eq_true, true_and, List.getElem?_toArray, List.getElem?_cons_zero, List.getElem?_cons_succ, List.cons_append, List.nil_append, aBin_int, intBin, ty5, ty30, hn, t0, t3, d1, d3, d4, d5, pur0, f1, f2, f3, f4, Int.toNat_natCast, f5, fn35, ex35]
            refine CallK_fail (e := 4) hc (by decide) ?_
            simp (maxDischargeDepth := 40) only [app_fin, app_seq_panic, app_block_panic, app_inv_panic, put_defers, true_and, ABody, hd]
            exact CurR_fault (e := 4) (by simp [failR, he]) (by decide) hKK hc
          · simp (maxDischargeDepth := 40) only [Nat.reduceEqDiff, Nat.reduceLT, reduceCtorEq, WK_skip, WK_seq, WK_cond, WK_region, WLK_nil, WLK_cons, app_seq_normal, ne_eq, not_true_eq_false, List.cons_append, aConvert, Nat.succ_ne_self, want, dstOk, opR, opE, opC, ev, evs, put_n, put_tmps, selfRel, aNilNil, nilC_tmp, nilC_int, opCallR, ↓bind_match, ↓reduceIte, Bool.false_eq_true, decide_true, Bool.or_self, beq_self_eq_true, Bool.false_eq_true, true_and, List.getElem?_toArray, List.getElem?_cons_zero, List.getElem?_cons_succ, List.cons_append, List.nil_append, aBin_int, intBin, ty5, ty30, hn, t0, t3, d1, d2, d3, d4, d5, pur0, f1, f2, f3, f4, Int.toNat_natCast, f5, fn35, ex35]
            refine CallK_fail (e := 4) hc (by decide) ?_
            simp (maxDischargeDepth := 40) only [app_fin, app_seq_panic, app_block_panic, app_inv_panic, put_defers, true_and, ABody, hd]
            exact CurR_fault (e := 4) (by simp [failR, he]) (by decide) hKK hc
        · rw [if_neg hz] at hv
          subst hv
          have d45 : ((b : Int) == 0) = false ∨ ((b : Int) == 0) = true ∧ decide ((i : Int) > 0) = false := by
            by_cases h : b = 0
            · right; constructor
              · simp; omega
              · simp; omega
            · left; simp; omega
          have fin := CurR_ok (q := (q, x + b % 128 * 128 ^ i)) (mk := fun x => Value.int .u64 ((x : Nat) : Int)) he hKK hc
          rcases d12 with d1 | ⟨d1, d2⟩
          · rcases d45 with d4 | ⟨d4, d5⟩
            · simp (maxDischargeDepth := 40) only [Nat.reduceEqDiff, Nat.reduceLT, WK_skip, WK_ret, WK_seq, WK_cond, WK_region, WLK_nil, WLK_cons, app_fin, app_seq_normal, app_seq_ret, app_block_ret, app_inv_ret, ne_eq, not_true_eq_false, Option.some.injEq, exists_eq_left', aConvert, want, dstOk, opR, ev, put_n, put_tmps, put_defers, selfRel, aNilNil, nilC_tmp, nilC_int, ↓bind_match, ↓reduceIte, Bool.false_eq_true, decide_true, Bool.or_self, beq_true, Bool.false_eq_true, true_and, List.getElem?_toArray, List.getElem?_cons_zero, List.getElem?_cons_succ, ABody, aResults, aResult, tupleOf, rs63, aBin_int, intBin, ty5, ty30, hn, hd, t3, d1, d3, d4, f1, f2, f3, f4, Int.toNat_natCast, f5]
              exact fin
            · simp (maxDischargeDepth := 40) only [Nat.reduceEqDiff, Nat.reduceLT, WK_skip, WK_ret, WK_seq, WK_cond, WK_region, WLK_nil, WLK_cons, app_fin, app_seq_normal, app_seq_ret, app_block_ret, app_inv_ret, ne_eq, not_true_eq_false, Option.some.injEq, exists_eq_left', aConvert, Nat.succ_ne_self, want, dstOk, opR, ev, put_n, put_tmps, put_defers, selfRel, aNilNil, nilC_tmp, nilC_int, ↓bind_match, ↓reduceIte, Bool.false_eq_true, decide_true, Bool.or_self, beq_self_eq_true, beq_true, Bool.false_eq_true, true_and, List.getElem?_toArray, List.getElem?_cons_zero, List.getElem?_cons_succ, ABody, aResults, aResult, tupleOf, rs63, aBin_int, intBin, ty5, ty30, hn, hd, t3, d1, d3, d4, d5, f1, f2, f3, f4, Int.toNat_natCast, f5]
              exact fin
          · rcases d45 with d4 | ⟨d4, d5⟩
            · simp (maxDischargeDepth := 40) only [Nat.reduceEqDiff, Nat.reduceLT, WK_skip, WK_ret, WK_seq, WK_cond, WK_region, WLK_nil, WLK_cons, app_fin, app_seq_normal, app_seq_ret, app_block_ret, app_inv_ret, ne_eq, not_true_eq_false, Option.some.injEq, exists_eq_left', aConvert, want, dstOk, opR, ev, put_n, put_tmps, put_defers, selfRel, aNilNil, nilC_tmp, nilC_int, ↓bind_match, ↓reduceIte, Bool.false_eq_true, decide_true, Bool.or_self, beq_self_eq_true, beq_true, Bool.false_eq_true, true_and, List.getElem?_toArray, List.getElem?_cons_zero, List.getElem?_cons_succ, ABody, aResults, aResult, tupleOf, rs63, aBin_int, intBin, ty5, ty30, hn, hd, t3, d1, d2, d3, d4, f1, f2, f3, f4, Int.toNat_natCast, f5]
              exact fin
            · simp (maxDischargeDepth := 40) only [Nat.reduceEqDiff, Nat.reduceLT, WK_skip, WK_ret, WK_seq, WK_cond, WK_region, WLK_nil, WLK_cons, app_fin, app_seq_normal, app_seq_ret, app_block_ret, app_inv_ret, ne_eq, not_true_eq_false, Option.some.injEq, exists_eq_left', aConvert, Nat.succ_ne_self, want, dstOk, opR, ev, put_n, put_tmps, put_defers, selfRel, aNilNil, nilC_tmp, nilC_int, ↓bind_match, ↓reduceIte, Bool.false_eq_true, decide_true, Bool.or_self, beq_self_eq_true, Bool.false_eq_true, true_and, List.getElem?_toArray, List.getElem?_cons_zero, List.getElem?_cons_succ, ABody, aResults, aResult, tupleOf, rs63, aBin_int, intBin, ty5, ty30, hn, hd, t3, d1, d2, d3, d4, d5, f1, f2, f3, f4, Int.toNat_natCast, f5]
              exact fin

/-- A number of at most so much. -/
theorem number_walk {H0 : AH} {cb : Nat} {r0 : RdV} (h0 : CurAt H0 cb r0) (hok0 : r0.Ok) (most : Nat) :
    ACalls P 33 [ptr cb, .int .u64 most] H0 (CurR H0 cb (numberR r0 most) fun x => .int .u64 x) := by
  refine ACalls_K E (fnOf_ok P) mixed pur0_ok fn33 ok33 sx33 (by simp [nt33]) ?_
  simp only [nt33]
  have hv := varR_err (r := r0)
  unfold numberR
  simp (maxDischargeDepth := 40) only [Nat.reduceLT, reduceCtorEq, WK_seq, WK_region, WLK_nil, WLK_cons, app_seq_normal, List.cons_append, Nat.zero_add, want, dstOk, opR, opE, opC, ev, evs, entry, argT, put_n, put_tmps, selfRel, opCallR, ↓bind_match, ↓reduceIte, decide_true, true_and, List.cons_append, List.nil_append, code33, pur0, fn63, ex63]
  refine CallK_cur (vget_walk h0 hok0) (fun he H' hk hc => ?_) (fun he H' r' hk hc => ?_)
  · by_cases hm : most < (varR r0).2
    · have d1 : decide (((varR r0).2 : Int) > (most : Int)) = true := by simp; omega
      rw [if_pos ⟨he, hm⟩]
      simp (maxDischargeDepth := 40) only [Nat.reduceEqDiff, Nat.reduceLT, reduceCtorEq, WK_seq, WK_cond, WK_region, WLK_nil, WLK_cons, app_seq_normal, ne_eq, not_true_eq_false, List.cons_append, Nat.succ_ne_self, want, dstOk, opR, opE, opC, ev, evs, put_n, put_tmps, selfRel, aNilNil, nilC_tmp, opCallR, ↓bind_match, ↓reduceIte, Bool.false_eq_true, decide_true, Bool.or_self, Bool.false_eq_true, true_and, List.cons_append, List.nil_append, aBin_int, intBin, d1, pur0, fn35, ex35]
      refine CallK_fail (e := 3) hc (by decide) ?_
      simp (maxDischargeDepth := 40) only [app_fin, app_seq_panic, put_defers, true_and, ABody]
      exact CurR_fault (e := 3) (by simp [failR, he]) (by decide) hk hc
    · have d1 : decide (((varR r0).2 : Int) > (most : Int)) = false := by simp; omega
      rw [if_neg (fun h => hm h.2)]
      simp (maxDischargeDepth := 40) only [Nat.reduceEqDiff, Nat.reduceLT, WK_skip, WK_ret, WK_seq, WK_cond, WK_region, WLK_nil, WLK_cons, app_fin, app_seq_normal, ne_eq, not_true_eq_false, Option.some.injEq, exists_eq_left', Nat.succ_ne_self, want, dstOk, opR, ev, put_n, put_tmps, put_defers, aNilNil, nilC_tmp, ↓bind_match, ↓reduceIte, Bool.false_eq_true, decide_true, Bool.or_self, Bool.false_eq_true, true_and, ABody, aResults, aResult, tupleOf, rs33, aBin_int, intBin, d1]
      exact CurR_ok he hk hc
  · rw [if_neg (fun h => he h.1)]
    simp (maxDischargeDepth := 40) only [app_fin, app_seq_panic, put_defers, true_and, ABody]
    exact CurR_fault rfl he hk hc

/-- A number with a point. -/
theorem fget_walk {H0 : AH} {cb : Nat} {r0 : RdV} (h0 : CurAt H0 cb r0) : ACalls P 37 [ptr cb] H0 (CurR H0 cb (fltR r0) fun x => .float .f64 x) := by
  refine ACalls_K E (fnOf_ok P) mixed L0_ok fn37 ok37 sx37 (by simp [nt37]) ?_
  simp only [nt37]
  have n67 : L0 67 [ptr cb] = none := rfl
  have n35 : L0 35 [ptr cb, .int .i64 4] = none := rfl
  unfold fltR
  simp (maxDischargeDepth := 40) only [Nat.reduceLT, reduceCtorEq, WK_seq, WK_region, WLK_nil, WLK_cons, app_seq_normal, List.cons_append, want, dstOk, opR, opE, opC, ev, evs, entry, argT, put_n, put_tmps, selfRel, opCallR, ↓bind_match, ↓reduceIte, decide_true, true_and, List.cons_append, List.nil_append, code37, n67, fn67, ex67]
  refine CallK_cur (eight_walk h0) (fun he H' hk hc => ?_) (fun he H' r' hk hc => ?_)
  · rw [if_pos he]
    have n62 : L0 62 [.float .f64 (getR r0 8).2] = some (.int .u64 (textB (getR r0 8).2)) := rfl
    have ht : ((getR r0 8).2 : Int).toNat = (getR r0 8).2 := by simp
    have hne : ((textB (getR r0 8).2 : Int) != ((getR r0 8).2 : Int)) = (textB (getR r0 8).2 != (getR r0 8).2) := by simp only [bne, nat_beq]
    by_cases hx : textB (getR r0 8).2 = (getR r0 8).2
    · have hx' : (textB (getR r0 8).2 != (getR r0 8).2) = false := by simp [hx]
      rw [if_pos hx]
      simp (maxDischargeDepth := 40) only [Nat.reduceEqDiff, Nat.reduceLT, WK_skip, WK_ret, WK_seq, WK_cond, WK_region, WLK_nil, WLK_cons, app_fin, app_seq_normal, ne_eq, not_true_eq_false, List.cons_append, Option.some.injEq, exists_eq_left', want, dstOk, opR, opE, opC, ev, evs, put_n, put_tmps, put_defers, aNilNil, nilC_tmp, opCallR, ↓bind_match, ↓reduceIte, Bool.false_eq_true, decide_true, Bool.or_self, Bool.false_eq_true, true_and, List.cons_append, List.nil_append, ABody, aResults, aResult, tupleOf, rs37, aBin_int, intBin, ext68, n62, fn62, ex62, ht, hne, hx']
      exact CurR_ok he hk hc
    · have hx' : (textB (getR r0 8).2 != (getR r0 8).2) = true := by simp [hx]
      rw [if_neg hx]
      simp (maxDischargeDepth := 40) only [Nat.reduceEqDiff, Nat.reduceLT, reduceCtorEq, WK_seq, WK_cond, WK_region, WLK_nil, WLK_cons, app_seq_normal, ne_eq, not_true_eq_false, List.cons_append, want, dstOk, opR, opE, opC, ev, evs, put_n, put_tmps, selfRel, aNilNil, nilC_tmp, opCallR, ↓bind_match, ↓reduceIte, Bool.false_eq_true, decide_true, Bool.or_self, Bool.false_eq_true, true_and, List.cons_append, List.nil_append, aBin_int, intBin, ext68, n62, fn62, ex62, ht, hne, hx', n35, fn35, ex35]
      refine CallK_fail (e := 4) hc (by decide) ?_
      simp (maxDischargeDepth := 40) only [app_fin, app_seq_panic, put_defers, true_and, ABody]
      exact CurR_fault (e := 4) (by simp [failR, he]) (by decide) hk hc
  · rw [if_neg he]
    simp (maxDischargeDepth := 40) only [app_fin, app_seq_panic, put_defers, true_and, ABody]
    exact CurR_fault rfl he hk hc

/-- There are no more. -/
theorem left_h {H : AH} {cb : Nat} {r : RdV} (h : CurAt H cb r) : HPure P 38 [ptr cb] H (.int .i64 r.s.length) := by
  refine HPure_of rfl ?_
  refine ACalls_K E (fnOf_ok P) mixed pur0_ok fn38 ok38 sx38 (by simp [nt38]) ?_
  simp only [nt38]
  have hc := h
  obtain ⟨h1, h2, v, l, h3, h4, h5, h6, h7⟩ := h
  have hlen : r.s.length = l.length - r.pos := by rw [h6, List.length_drop]
  have f1 : IntKind.i64.wrap ((l.length : Int) - (r.pos : Int)) = ((r.s.length : Nat) : Int) := by rw [wrap_i64 (by omega) (by omega)]; omega
  have e2 : ∀ a cap H, aLen E.ty H 23 (.slice a l.length cap) = some (.int .i64 l.length) := fun a cap H => aLen_slice ty23 rfl _ _ _
  have hw : ∃ a cap, v = .slice a l.length cap := by
    rcases h7 with ⟨rfl, rfl⟩ | ⟨b, o, cap, cs, rfl, _⟩
    · exact ⟨_, _, rfl⟩
    · exact ⟨_, _, rfl⟩
  obtain ⟨a, cap, rfl⟩ := hw
  simp (maxDischargeDepth := 40) only [Nat.reduceLT, reduceCtorEq, WK_seq, WK_region, WLK_nil, WLK_cons, app_seq_normal, List.cons_append, want, dstOk, opR, opE, opC, ev, evs, entry, argT, put_n, put_tmps, selfRel, opCallR, ↓bind_match, ↓reduceIte, decide_true, true_and, List.cons_append, List.nil_append, code38, pur0, fn65, ex65]
  refine CallK_pure (dead_h hc) ?_
  simp (maxDischargeDepth := 40) only [Nat.reduceEqDiff, Nat.reduceLT, Nat.reduceLeDiff, reduceCtorEq, Nat.reduceAdd, Nat.reduceLeDiff,  WK_skip, WK_ret, WK_seq, WK_cond, WK_draw, WLK_nil, WPK_cons, app_fin, app_seq_normal, WChks, WChk, evNewA, opRP, ne_eq, not_true_eq_false, List.take_succ_cons, List.drop_succ_cons, List.head?_cons, isAggD, aFieldAddr, aLoad, List.cons_append, List.take_zero, List.drop_zero, List.length_cons, List.length_nil, Nat.zero_add, Keep.refl, Option.some.injEq, exists_eq_left', AH.load, Nat.succ_ne_self, want, dstOk, opR, ev, evs, put_n, put_tmps, put_defers, aNilNil, nilC_tmp, opCallR, ↓bind_match, ↓reduceIte, Bool.false_eq_true, decide_true, Bool.or_self, Bool.false_eq_true, and_true, List.getElem?_toArray, List.getElem?_cons_zero, List.getElem?_cons_succ, List.cons_append, List.nil_append, ABody, aResults, aResult, tupleOf, rs38, aBin_int, intBin, ty3, ty23, ty83, pl38_3, h3, e2, f1]

def endR (r : RdV) : RdV × Unit := (if r.s = [] then r else failR r 3, ())

theorem end_walk {H : AH} {cb : Nat} {r : RdV} (h : CurAt H cb r) : ACalls P 11 [ptr cb] H (CurR H cb (endR r) fun _ => .tuple #[]) := by
  refine ACalls_K E (fnOf_ok P) mixed pur0_ok fn11 ok11 sx11 (by simp [nt11]) ?_
  simp only [nt11]
  simp (maxDischargeDepth := 40) only [Nat.reduceLT, WK_seq, WK_region, WLK_cons, List.cons_append, want, dstOk, opR, opE, opC, ev, evs, entry, argT, put_n, put_tmps, opCallR, ↓bind_match, ↓reduceIte, decide_true, true_and, List.cons_append, List.nil_append, code11, pur0, fn38, ex38]
  refine CallK_pure (left_h h) ?_
  unfold endR
  by_cases hs : r.s = []
  · have d1 : decide ((r.s.length : Int) > 0) = false := by simp [hs]
    rw [if_pos hs]
    simp (maxDischargeDepth := 40) only [Nat.reduceLT, WK_skip, WK_cond, WLK_nil, WLK_cons, app_fin, app_seq_normal, ne_eq, not_true_eq_false, Option.some.injEq, exists_eq_left', want, dstOk, opR, ev, put_n, put_tmps, put_defers, selfRel, aNilNil, nilC_tmp, nilC_int, ↓bind_match, ↓reduceIte, Bool.false_eq_true, decide_true, Bool.or_self, Bool.false_eq_true, true_and, ABody, aResults, tupleOf, rs11, aBin_int, intBin, d1]
    exact CurR_ok (q := (r, ())) (mk := fun _ => .tuple #[]) h.1 (KeepIf.refl _ _) h
  · have d1 : decide ((r.s.length : Int) > 0) = true := by
      have : r.s.length ≠ 0 := fun e => hs (List.length_eq_zero_iff.1 e)
      simp; omega
    rw [if_neg hs]
    simp (maxDischargeDepth := 40) only [Nat.reduceLT, reduceCtorEq, WK_cond, WK_region, WLK_nil, WLK_cons, app_seq_normal, ne_eq, not_true_eq_false, List.cons_append, want, dstOk, opR, opE, opC, ev, evs, put_n, put_tmps, selfRel, aNilNil, nilC_tmp, nilC_int, opCallR, ↓bind_match, ↓reduceIte, Bool.false_eq_true, decide_true, Bool.or_self, Bool.false_eq_true, true_and, List.cons_append, List.nil_append, aBin_int, intBin, d1, pur0, fn35, ex35]
    refine CallK_fail (e := 3) h (by decide) ?_
    simp (maxDischargeDepth := 40) only [app_fin, put_defers, true_and, ABody]
    exact CurR_fault (e := 3) (by simp [failR, h.1]) (by decide) (KeepIf.refl _ _) h

end Go.Am.Q

/- Notes, got again. -/
set_option linter.unusedSimpArgs false
set_option linter.unusedSectionVars false
set_option maxRecDepth 20000
namespace Go.Am.Q
open Go Go.Am Go.Proofs
variable [F : Fr]

theorem CurAt.set {H : AH} {cb c : Nat} {r : RdV} (h : CurAt H cb r) {cs : List Value} {e : TypeId} (hc : H.get c = some (.cells cs e)) (h5 : e ≠ 5) (h83 : e ≠ 83) (x : Option Blk) : CurAt (H.set c x) cb r := by
  obtain ⟨h1, h2, v, l, h3, h4, h5', h6, h7⟩ := h
  have hne : cb ≠ c := by rintro rfl; rw [h3] at hc; cases hc; exact h83 rfl
  refine ⟨h1, h2, v, l, by rw [AH.get_set_ne _ _ _ _ hne]; exact h3, h4, h5', h6, ?_⟩
  rcases h7 with h | ⟨b, o, cap, cs', g1, g2, g3, g4, g5, g6⟩
  · exact .inl h
  · have hne2 : b ≠ c := by rintro rfl; rw [g3] at hc; cases hc; exact h5 rfl
    exact .inr ⟨b, o, cap, cs', g1, g2, by rw [AH.get_set_ne _ _ _ _ hne2]; exact g3, g4, g5, g6⟩

theorem CurAt.push {H : AH} {cb : Nat} {r : RdV} (h : CurAt H cb r) (x : Blk) : CurAt (H.push x) cb r := h.keep (Keep.push (Keep.refl _) x)

theorem CurAt.ne {H : AH} {cb c : Nat} {r : RdV} (h : CurAt H cb r) {cs : List Value} {e : TypeId} (hc : H.get c = some (.cells cs e)) (h83 : e ≠ 83) : c ≠ cb := by
  rintro rfl
  obtain ⟨_, _, v, l, h3, _⟩ := h
  rw [h3] at hc; cases hc; exact h83 rfl

/-- Where a reading stopped, nothing more is read. -/
theorem takeR_stop {r : RdV} (h : r.e ≠ 0) (n : Nat) : takeR r n = (r, []) := by simp [takeR, h]

theorem varR_stop {r : RdV} (h : r.e ≠ 0) : varR r = (r, 0) := by
  unfold varR
  rw [varL, getR_stop h]
  simp only [if_pos h]

theorem numberR_stop {r : RdV} (h : r.e ≠ 0) (m : Nat) : numberR r m = (r, 0) := by
  unfold numberR
  rw [varR_stop h, if_neg (fun g => h g.1)]

theorem numsP_stop {r : RdV} (h : r.e ≠ 0) : ∀ j, (numsP j r).1 = r := by
  intro j
  induction j with
  | zero => rfl
  | succ j ih => simp only [numsP, ih, numberR_stop h]

theorem wholeR_stop {r : RdV} (h : r.e ≠ 0) : wholeR r = r := by
  unfold wholeR
  rw [getR_stop h, if_neg (fun g => h g.1)]

theorem fltR_stop {r : RdV} (h : r.e ≠ 0) : fltR r = (r, 0) := by
  unfold fltR
  rw [getR_stop h, if_neg h]

theorem lastR_stop {r : RdV} (h : r.e ≠ 0) (n : NoteV) : lastR r n = r := by
  unfold lastR
  rw [fltR_stop h, if_neg (fun g => h g.1)]

/-- A row of notes that was made here, of a type. -/
def OwnE (e : TypeId) (lo : Nat) (H : AH) (v : Value) (ns : List NoteV) : Prop :=
  (v = .slice none 0 0 ∧ ns = []) ∨ ∃ b, v = .slice (some ⟨b, 0, none⟩) ns.length unk ∧ lo ≤ b ∧ b < H.next ∧ H.get b = some (.cells (ns.flatMap NoteV.cells) e)

theorem OwnE.notes {e : TypeId} {lo : Nat} {H : AH} {v : Value} {ns : List NoteV} (h : OwnE e lo H v ns) : NotesAt H e v ns := by
  rcases h with h | ⟨b, h1, h2, h3, h4⟩
  · exact .inl h
  · exact .inr ⟨b, unk, h1, h4, h3⟩

theorem OwnE.keep {e : TypeId} {lo : Nat} {H H' : AH} {v : Value} {ns : List NoteV} (h : OwnE e lo H v ns) {p : Nat → Prop} (hk : KeepIf p H H') (hp : ∀ b, lo ≤ b → b < H.next → ¬ p b) : OwnE e lo H' v ns := by
  rcases h with h | ⟨b, h1, h2, h3, h4⟩
  · exact .inl h
  · exact .inr ⟨b, h1, h2, Nat.lt_of_lt_of_le h3 hk.1, by rw [hk.2 b h3 (hp b h2 h3)]; exact h4⟩

structure Lq (H0 : AH) (cb count i : Nat) (v : Value) (acc : List NoteV) (r : RdV) (a : AAct) (H : AH) : Prop where
  n : a.n = 56
  d : a.defers = []
  t0 : a.tmps 0 = some (ptr cb)
  t3 : a.tmps 3 = some v
  t9 : a.tmps 9 = some (.int .u64 count)
  t10 : a.tmps 10 = some (.int .u64 i)
  own : OwnE 32 H0.next H v acc
  cur : CurAt H cb r
  lt : cb < H0.next
  keep : KeepIf (· = cb) H0 H

structure Nq (H0 : AH) (cb nb count i : Nat) (v : Value) (acc : List NoteV) (r : RdV) (n : NoteV) (a : AAct) (H : AH) : Prop where
  lp : Lq H0 cb count i v acc r a H
  t4 : a.tmps 4 = some (ptr nb)
  hN : H.get nb = some (.cells n.cells 32)
  lo : H0.next ≤ nb
  hi : nb < H.next
  own : ∀ b, v = .slice (some ⟨b, 0, none⟩) acc.length unk → b ≠ nb

/-- What a note's reading leaves of the frame. -/
theorem Nq.next {H0 : AH} {cb nb count i : Nat} {v : Value} {acc : List NoteV} {r r' : RdV} {n n' : NoteV} {a a' : AAct} {H H' : AH} (h : Nq H0 cb nb count i v acc r n a H)
    (e1 : a'.n = 56) (e2 : a'.defers = []) (e3 : a'.tmps 0 = some (ptr cb)) (e4 : a'.tmps 3 = some v) (e5 : a'.tmps 9 = some (.int .u64 count)) (e6 : a'.tmps 10 = some (.int .u64 i))
    (e7 : a'.tmps 4 = some (ptr nb)) (hc : CurAt H' cb r') (hN : H'.get nb = some (.cells n'.cells 32)) (hk : KeepIf (fun b => b = cb ∨ b = nb) H H') : Nq H0 cb nb count i v acc r' n' a' H' := by
  obtain ⟨⟨hn, hd, t0, t3, t9, t10, hown, hcur, hlt, hK⟩, t4, hN0, hlo, hhi, hob⟩ := h
  have hk1 := hk.1
  have hK1 := hK.1
  refine ⟨⟨e1, e2, e3, e4, e5, e6, ?_, hc, hlt, ?_⟩, e7, hN, hlo, by omega, hob⟩
  · rcases hown with h | ⟨b, hv, hb1, hb2, hb3⟩
    · exact .inl h
    · have := hob b hv
      exact .inr ⟨b, hv, hb1, by omega, by rw [hk.2 b hb2 (by rintro (h | h) <;> omega)]; exact hb3⟩
  · exact ⟨by omega, fun b hb hp => by rw [hk.2 b (by omega) (by rintro (h | h) <;> omega)]; exact hK.2 b hb hp⟩

theorem bs22 (H : AH) (c0 c1 c2 c3 c4 c5 c6 : Value) (c7 : Value) (h : [c0, c1, c2, c3, c4, c5, c6, c7].all (·.oneCell') = true) :
    aBuildSlice E.ty H 22 1 #[(0, .agg #[c0, c1, c2, c3, c4, c5, c6, c7])] = some (.slice (some ⟨H.next, 0, none⟩) 1 1, H.push (.cells [c0, c1, c2, c3, c4, c5, c6, c7] 32)) :=
  aBuildSlice_agg ty22 rfl ty32 (by decide) (by decide) rfl h

theorem ap22_nil (H : AH) (xs : List Value) (h : xs.length = 8) : aAppend E.ty (H.push (.cells xs 32)) 22 22 (.slice none 0 0) (.slice (some ⟨H.next, 0, none⟩) 1 1) =
    some (.slice (some ⟨H.next + 1, 0, none⟩) 1 unk, (H.push (.cells xs 32)).push (.cells xs 32)) := by
  have hx : (H.push (.cells xs 32)).load H.next 0 (1 * 8) = some xs := by
    simp only [AH.load, AH.get_push_same]
    rw [if_pos (by omega), List.drop_zero, List.take_of_length_le (by omega)]
  exact aAppend_nil ty22 rfl ty32 (by decide) (by decide) (by decide) hx (by decide) (by decide)

theorem ap22_own (H : AH) (xs cs : List Value) (b len : Nat) (h : xs.length = 8) (hb : H.get b = some (.cells cs 32)) (hn : b ≠ H.next) (hl : cs.length = len * 8) (hk : len + 1 ≤ 4294967296) :
    aAppend E.ty (H.push (.cells xs 32)) 22 22 (.slice (some ⟨b, 0, none⟩) len unk) (.slice (some ⟨H.next, 0, none⟩) 1 1) =
    some (.slice (some ⟨H.next + 1, 0, none⟩) (len + 1) unk, ((H.push (.cells xs 32)).set b none).push (.cells (cs ++ xs) 32)) := by
  have hx : (H.push (.cells xs 32)).load H.next 0 (1 * 8) = some xs := by
    simp only [AH.load, AH.get_push_same]
    rw [if_pos (by omega), List.drop_zero, List.take_of_length_le (by omega)]
  have hb' : (H.push (.cells xs 32)).get b = some (.cells cs 32) := by rw [AH.get_push_ne _ _ _ hn]; exact hb
  exact aAppend_own ty22 rfl ty32 (by decide) (by decide) (by decide) hx (by decide) hk hb' hl

theorem tq16 {H0 : AH} {cb nb count i : Nat} {v : Value} {acc : List NoteV} {r : RdV} {n : NoteV} {a : AAct} {H : AH} (K : Kont) (hal : acc.length ≤ 65536) (h : Nq H0 cb nb count i v acc r n a H)
    (hgo : ∀ a' H' v', Lq H0 cb count i v' (acc ++ [n]) r a' H' → app E (fnOf P) pur5 (plsOf plans 10) K .normal a' H') :
    WK E (fnOf P) pur5 (plsOf plans 10) tail10_16 K a H := by
  obtain ⟨⟨hn, hd, t0, t3, t9, t10, hown, hcur, hlt, hK⟩, t4, hN, hlo, hhi, hob⟩ := h
  have hkk := hK.1
  simp only [NoteV.cells] at hN
  have hbs := fun H => bs22 H (.int .u64 n.number) (.int .i64 n.bytes) (.int .i64 n.erased) (.int .i64 n.chunks) (.int .i64 n.empty) (.int .i64 n.found) (.int .i64 n.good) (.bool n.whole) rfl
  rcases hown with ⟨rfl, rfl⟩ | ⟨b, rfl, hb1, hb2, hb3⟩
  · have m_0_1 : ¬ nb = H.next := by omega
    have m_0_2 : ¬ nb = H.next + 1 := by omega
    have m_1_0 : ¬ H.next = nb := by omega
    have m_1_2 : ¬ H.next = H.next + 1 := by omega
    have m_2_0 : ¬ H.next + 1 = nb := by omega
    have m_2_1 : ¬ H.next + 1 = H.next := by omega
    have hap := ap22_nil H [.int .u64 n.number, .int .i64 n.bytes, .int .i64 n.erased, .int .i64 n.chunks, .int .i64 n.empty, .int .i64 n.found, .int .i64 n.good, .bool n.whole] rfl
    simp (maxDischargeDepth := 40) only [Nat.reduceEqDiff, Nat.reduceLT, Nat.reduceAdd, Nat.le_refl, WK_region, WLK_nil, WLK_cons, List.take_succ_cons, isAggD, aLoad, List.take_zero, List.drop_zero, List.length_cons, List.length_nil, Nat.zero_add, AH.load, want, dstOk, opR, opE, ev, evs, evParts, put_n, put_tmps, opCallR, ↓bind_match, ↓map_match, ↓reduceIte, decide_true, true_and, tail10_16, ty32, hn, t3, t4, hN, hbs, hap]
    refine hgo _ _ (.slice (some ⟨H.next + 1, 0, none⟩) 1 unk) ⟨?_, ?_, ?_, ?_, ?_, ?_, ?_, ?_, hlt, ?_⟩
    · simp only [put_n, hn]
    · simp only [put_defers, hd]
    · simp (maxDischargeDepth := 40) only [reduceCtorEq, put_tmps, ↓reduceIte, t0]
    · simp (maxDischargeDepth := 40) only [put_tmps, ↓reduceIte]
    · simp (maxDischargeDepth := 40) only [Nat.reduceEqDiff, put_tmps, ↓reduceIte, t9]
    · simp (maxDischargeDepth := 40) only [Nat.reduceEqDiff, put_tmps, ↓reduceIte, t10]
    · refine .inr ⟨H.next + 1, rfl, by omega, by simp only [AH.next_push]; omega, ?_⟩
      simp (maxDischargeDepth := 40) only [List.cons_append, AH.get_push, AH.next_push, ↓reduceIte, List.cons_append, List.nil_append, NoteV.cells, List.flatMap_cons, List.flatMap_nil]
    · exact (hcur.push _).push _
    · exact (hK.push _).push _
  · have hnb := hob b rfl
    have hap := ap22_own H [.int .u64 n.number, .int .i64 n.bytes, .int .i64 n.erased, .int .i64 n.chunks, .int .i64 n.empty, .int .i64 n.found, .int .i64 n.good, .bool n.whole] _ b acc.length rfl hb3 (by omega) (notes_length acc) (by omega)
    have p_0_1 : ¬ nb = H.next := by omega
    have p_0_2 : ¬ nb = H.next + 1 := by omega
    have p_0_3 : ¬ nb = b := by omega
    have p_1_0 : ¬ H.next = nb := by omega
    have p_1_2 : ¬ H.next = H.next + 1 := by omega
    have p_1_3 : ¬ H.next = b := by omega
    have p_2_0 : ¬ H.next + 1 = nb := by omega
    have p_2_1 : ¬ H.next + 1 = H.next := by omega
    have p_2_3 : ¬ H.next + 1 = b := by omega
    have p_3_0 : ¬ b = nb := by omega
    have p_3_1 : ¬ b = H.next := by omega
    have p_3_2 : ¬ b = H.next + 1 := by omega
    simp (maxDischargeDepth := 40) only [Nat.reduceEqDiff, Nat.reduceLT, Nat.reduceAdd, Nat.le_refl, WK_region, WLK_nil, WLK_cons, List.take_succ_cons, isAggD, aLoad, List.take_zero, List.drop_zero, List.length_cons, List.length_nil, Nat.zero_add, AH.load, want, dstOk, opR, opE, ev, evs, evParts, put_n, put_tmps, opCallR, ↓bind_match, ↓map_match, ↓reduceIte, decide_true, true_and, tail10_16, ty32, hn, t3, t4, hN, hbs, hap]
    refine hgo _ _ (.slice (some ⟨H.next + 1, 0, none⟩) (acc.length + 1) unk) ⟨?_, ?_, ?_, ?_, ?_, ?_, ?_, ?_, hlt, ?_⟩
    · simp only [put_n, hn]
    · simp only [put_defers, hd]
    · simp (maxDischargeDepth := 40) only [reduceCtorEq, put_tmps, ↓reduceIte, t0]
    · simp (maxDischargeDepth := 40) only [put_tmps, ↓reduceIte]
    · simp (maxDischargeDepth := 40) only [Nat.reduceEqDiff, put_tmps, ↓reduceIte, t9]
    · simp (maxDischargeDepth := 40) only [Nat.reduceEqDiff, put_tmps, ↓reduceIte, t10]
    · refine .inr ⟨H.next + 1, by simp, by omega, by simp only [AH.next_push, AH.next_set]; omega, ?_⟩
      simp (maxDischargeDepth := 40) only [List.cons_append, AH.get_push, AH.next_push, AH.next_set, ↓reduceIte, List.cons_append, List.nil_append, NoteV.cells, List.flatMap_append, List.flatMap_cons, List.flatMap_nil]
    · refine ((hcur.push _).set (c := b) (e := 32) (cs := acc.flatMap NoteV.cells) ?_ (by decide) (by decide) _).push _
      rw [AH.get_push_ne _ _ _ (by omega)]; exact hb3
    · exact ((hK.push _).set (.inr hb1) _).push _

end Go.Am.Q

/- Notes, got again, on. -/
set_option linter.unusedSimpArgs false
set_option linter.unusedSectionVars false
set_option maxRecDepth 20000
namespace Go.Am.Q
open Go Go.Am Go.Proofs
variable [F : Fr]

theorem keyB_inj {a b : Nat} (ha : a < 18446744073709551616) (hb : b < 18446744073709551616) : (keyB a == keyB b) = decide (textB a = textB b) := by
  have h1 := textB_lt ha
  have h2 := textB_lt hb
  rw [Bool.eq_iff_iff]
  simp only [beq_iff_eq, decide_eq_true_eq, keyB]
  split <;> split <;> omega

theorem pur5_36 {a b : Nat} (ha : a < 18446744073709551616) (hb : b < 18446744073709551616) : pur5 36 [.float .f64 a, .float .f64 b] = some (.bool (keyB a == keyB b)) := by
  have h2 : pur2 36 [.float .f64 a, .float .f64 b] = some (.bool (keyB a == keyB b)) := by
    have : pur2 36 [.float .f64 a, .float .f64 b] = if a < 18446744073709551616 ∧ b < 18446744073709551616 then some (.bool (keyB a == keyB b)) else none := rfl
    rw [this, if_pos ⟨ha, hb⟩]
  exact altP_left (altP_left (altP_left h2))

theorem tq14 {H0 : AH} {cb nb count i : Nat} {v : Value} {acc : List NoteV} {r : RdV} {n : NoteV} {a : AAct} {H : AH} (K : Kont) (hr : r.Ok) (hno : n.Ok) (h : Nq H0 cb nb count i v acc r n a H)
    (hpan : (lastR r n).e ≠ 0 → ∀ a' H' r', a'.defers = [] → KeepIf (· = cb) H0 H' → CurAt H' cb r' → app E (fnOf P) pur5 (plsOf plans 10) K (.panic [fault cb (lastR r n).e]) a' H')
    (next : (lastR r n).e = 0 → ∀ a' H', Nq H0 cb nb count i v acc (lastR r n) n a' H' → WK E (fnOf P) pur5 (plsOf plans 10) tail10_16 K a' H') :
    WK E (fnOf P) pur5 (plsOf plans 10) tail10_14 K a H := by
  have hq := h
  obtain ⟨⟨hn, hd, t0, t3, t9, t10, hown, hcur, hlt, hK⟩, t4, hN, hlo, hhi, hob⟩ := h
  have hN0 := hN
  simp only [NoteV.cells] at hN
  have n37 : pur5 37 [ptr cb] = none := rfl
  have n35 : pur5 35 [ptr cb, .int .i64 4] = none := rfl
  have g27 := pur5_27 hno
  simp only [NoteV.val, NoteV.cells] at g27
  have hfo := fltR_ok hr
  have hnc : nb ≠ cb := by omega
  simp (maxDischargeDepth := 40) only [Nat.reduceEqDiff, Nat.reduceLT, reduceCtorEq, Nat.reduceAdd, Nat.le_refl, WK_seq, WK_draw, WPK_cons, WChks, WChk, evNewA, opRP, List.take_succ_cons, isAggD, aLoad, List.cons_append, List.take_zero, List.drop_zero, List.length_cons, List.length_nil, Nat.zero_add, AH.load, want, dstOk, opR, opE, opC, ev, evs, put_n, put_tmps, opCallR, ↓bind_match, ↓map_match, ↓reduceIte, decide_true, true_and, and_true, List.getElem?_toArray, List.getElem?_cons_zero, List.getElem?_cons_succ, List.cons_append, List.nil_append, tail10_14, pl10_14, ty32, hn, t0, t4, hN, n37, fn37, ex37]
  refine CallP_cur (fget_walk hcur) (fun he H' hk hc => ?_) (fun he H' r' hk hc => ?_)
  · have hN' : H'.get nb = some (.cells [.int .u64 n.number, .int .i64 n.bytes, .int .i64 n.erased, .int .i64 n.chunks, .int .i64 n.empty, .int .i64 n.found, .int .i64 n.good, .bool n.whole] 32) := by
      rw [hk.2 nb hhi hnc]; exact hN
    have hN2 : H'.get nb = some (.cells n.cells 32) := by rw [hk.2 nb hhi hnc]; exact hN0
    have hhl := n.health_le
    have g36 := pur5_36 hfo.2 (b := n.health) (by simp only [fOne] at hhl; omega)
    rw [keyB_inj hfo.2 (by simp only [fOne] at hhl; omega), n.health_text] at g36
    by_cases hx : textB (fltR r).2 = n.health
    · have hx' : decide (textB (fltR r).2 = n.health) = true := by simp [hx]
      have hl : lastR r n = (fltR r).1 := by unfold lastR; rw [if_neg (fun g => g.2 hx)]
      rw [hl] at next
      rw [hx'] at g36
      simp (maxDischargeDepth := 40) only [Nat.reduceEqDiff, Nat.reduceLT, Nat.reduceAdd, Nat.le_refl, WK_skip, WK_cond, WPK_cons, app_seq_normal, WChks, WChk, evNewA, opRP, List.take_succ_cons, isAggD, aLoad, List.cons_append, List.take_zero, List.drop_zero, List.length_cons, List.length_nil, Nat.zero_add, AH.load, Nat.succ_ne_self, want, dstOk, opR, opE, opC, ev, evs, put_n, put_tmps, opCallR, ↓bind_match, ↓map_match, ↓reduceIte, Bool.false_eq_true, decide_true, Bool.not_true, Bool.false_eq_true, true_and, and_true, List.getElem?_toArray, List.getElem?_cons_zero, List.getElem?_cons_succ, List.cons_append, List.nil_append, ty32, hn, t4, hN', g27, g36, fn27, ex27, fn36, ex36, aUn]
      refine next he _ _ (hq.next ?_ ?_ ?_ ?_ ?_ ?_ ?_ hc hN2 (hk.weak fun b _ h => .inl h))
      · simp only [put_n, hn]
      · simp only [put_defers, hd]
      all_goals simp (maxDischargeDepth := 40) only [Nat.reduceEqDiff, reduceCtorEq, put_tmps, ↓reduceIte, t0, t3, t4, t9, t10]
    · have hx' : decide (textB (fltR r).2 = n.health) = false := by simp [hx]
      have hl : lastR r n = failR (fltR r).1 4 := by unfold lastR; rw [if_pos ⟨he, hx⟩]
      have hl2 : (failR (fltR r).1 4).e = 4 := by simp [failR, he]
      rw [hl, hl2] at hpan
      rw [hx'] at g36
      simp (maxDischargeDepth := 40) only [Nat.reduceEqDiff, Nat.reduceLT, reduceCtorEq, Nat.reduceAdd, Nat.le_refl, WK_cond, WK_region, WLK_cons, WPK_cons, app_seq_normal, WChks, WChk, evNewA, opRP, List.take_succ_cons, isAggD, aLoad, List.cons_append, List.take_zero, List.drop_zero, List.length_cons, List.length_nil, Nat.zero_add, AH.load, Nat.succ_ne_self, want, dstOk, opR, opE, opC, ev, evs, put_n, put_tmps, selfRel, opCallR, ↓bind_match, ↓map_match, ↓reduceIte, decide_true, Bool.not_false, true_and, and_true, List.getElem?_toArray, List.getElem?_cons_zero, List.getElem?_cons_succ, List.cons_append, List.nil_append, ty32, hn, t0, t4, hN', n35, g27, g36, fn27, ex27, fn36, ex36, fn35, ex35, aUn]
      refine CallK_fail (e := 4) hc (by decide) ?_
      simp (maxDischargeDepth := 40) only [app_seq_panic]
      refine hpan (by decide) _ _ _ ?_ (hK.trans hk) hc
      simp only [put_defers, hd]
  · have hl : lastR r n = (fltR r).1 := by unfold lastR; rw [if_neg (fun g => he g.1)]
    rw [hl] at hpan
    simp (maxDischargeDepth := 40) only [app_seq_panic, AAct.forget, put_n, put_defers]
    refine hpan he _ _ _ ?_ (hK.trans hk) hc
    simp (maxDischargeDepth := 40) only [hd]

theorem tq10 {H0 : AH} {cb nb count i : Nat} {v : Value} {acc : List NoteV} {r : RdV} {n0 n : NoteV} {a : AAct} {H : AH} (K : Kont) (hr : r.Ok) (hno : n.Ok)
    (hne : n = ⟨n0.number, n0.bytes, n0.erased, n0.chunks, n0.empty, n0.found, n0.good, (getR r 1).2 == 1⟩) (h : Nq H0 cb nb count i v acc r n0 a H)
    (hpan : (lastR (wholeR r) n).e ≠ 0 → ∀ a' H' r', a'.defers = [] → KeepIf (· = cb) H0 H' → CurAt H' cb r' → app E (fnOf P) pur5 (plsOf plans 10) K (.panic [fault cb (lastR (wholeR r) n).e]) a' H')
    (next : (lastR (wholeR r) n).e = 0 → ∀ a' H', Nq H0 cb nb count i v acc (lastR (wholeR r) n) n a' H' → WK E (fnOf P) pur5 (plsOf plans 10) tail10_16 K a' H') :
    WK E (fnOf P) pur5 (plsOf plans 10) tail10_10 K a H := by
  have hq := h
  obtain ⟨⟨hn, hd, t0, t3, t9, t10, hown, hcur, hlt, hK⟩, t4, hN, hlo, hhi, hob⟩ := h
  simp only [NoteV.cells] at hN
  have hb := getR1_lt r
  have hqo := getR_ok hr 1
  have n34 : pur5 34 [ptr cb] = none := rfl
  have n35 : pur5 35 [ptr cb, .int .i64 4] = none := rfl
  have hnc : nb ≠ cb := by omega
  have hw : wholeR r = if (getR r 1).1.e = 0 ∧ 1 < (getR r 1).2 then failR (getR r 1).1 4 else (getR r 1).1 := rfl
  simp (maxDischargeDepth := 40) only [Nat.reduceLT, WK_seq, WK_region, WLK_cons, List.cons_append, want, dstOk, opR, opE, opC, ev, evs, put_n, put_tmps, opCallR, ↓bind_match, ↓reduceIte, decide_true, true_and, List.cons_append, List.nil_append, tail10_10, hn, t0, n34, fn34, ex34]
  refine CallK_cur (byte_walk hcur) (fun he H' hk hc => ?_) (fun he H' r' hk hc => ?_)
  · have hN' : H'.get nb = some (.cells [.int .u64 n0.number, .int .i64 n0.bytes, .int .i64 n0.erased, .int .i64 n0.chunks, .int .i64 n0.empty, .int .i64 n0.found, .int .i64 n0.good, .bool n0.whole] 32) := by
      rw [hk.2 nb hhi hnc]; exact hN
    by_cases hm : 1 < (getR r 1).2
    · have hw : wholeR r = failR (getR r 1).1 4 := by rw [hw, if_pos ⟨he, hm⟩]
      have hw2 : (failR (getR r 1).1 4).e = 4 := by simp [failR, he]
      have hl : lastR (wholeR r) n = failR (getR r 1).1 4 := by rw [lastR_stop (by rw [hw, hw2]; decide), hw]
      rw [hl, hw2] at hpan
      have d1 : decide (((getR r 1).2 : Int) > 1) = true := by simp; omega
      simp (maxDischargeDepth := 40) only [Nat.reduceLT, reduceCtorEq, WK_seq, WK_cond, WK_region, WLK_nil, WLK_cons, app_seq_normal, ne_eq, not_true_eq_false, List.cons_append, want, dstOk, opR, opE, opC, ev, evs, put_n, put_tmps, selfRel, aNilNil, nilC_tmp, nilC_int, opCallR, ↓bind_match, ↓reduceIte, Bool.false_eq_true, decide_true, Bool.or_self, Bool.false_eq_true, true_and, List.cons_append, List.nil_append, aBin_int, intBin, hn, t0, d1, n35, fn35, ex35]
      refine CallK_fail (e := 4) hc (by decide) ?_
      simp (maxDischargeDepth := 40) only [app_seq_panic]
      refine hpan (by decide) _ _ _ ?_ (hK.trans hk) hc
      simp only [put_defers, hd]
    · have hw : wholeR r = (getR r 1).1 := by rw [hw, if_neg (fun g => hm g.2)]
      rw [hw] at hpan next
      have d1 : decide (((getR r 1).2 : Int) > 1) = false := by simp; omega
      simp (maxDischargeDepth := 40) only [Nat.reduceEqDiff, Nat.reduceLT, Nat.reduceAdd, Nat.le_refl, WK_skip, WK_seq, WK_cond, WK_region, WLK_nil, WLK_cons, app_seq_normal, ne_eq, not_true_eq_false, List.take_succ_cons, List.drop_succ_cons, List.all_cons, List.all_nil, oc_bool, cells_bool, Bool.and_self, aFieldAddr, aStore, List.cons_append, List.take_zero, List.drop_zero, List.length_cons, List.length_nil, Nat.zero_add, AH.store, splice, Nat.succ_ne_self, want, dstOk, opR, opE, ev, put_n, put_tmps, put_none, selfRel, aNilNil, nilC_tmp, nilC_int, ↓bind_match, ↓map_match, ↓reduceIte, Bool.false_eq_true, decide_true, Bool.or_self, Bool.false_eq_true, true_and, and_true, List.toList_toArray, List.size_toArray, List.getElem?_toArray, List.getElem?_cons_zero, List.getElem?_cons_succ, List.cons_append, List.nil_append, aBin_int, intBin, ty4, ty32, hn, t4, hN', d1, nat_beq1]
      refine tq14 K hqo hno (hq.next ?_ ?_ ?_ ?_ ?_ ?_ ?_ ?_ ?_ ?_) hpan next
      · simp only [put_n, hn]
      · simp only [put_defers, hd]
      · simp (maxDischargeDepth := 40) only [reduceCtorEq, put_tmps, ↓reduceIte, t0]
      · simp (maxDischargeDepth := 40) only [Nat.reduceEqDiff, put_tmps, ↓reduceIte, t3]
      · simp (maxDischargeDepth := 40) only [Nat.reduceEqDiff, put_tmps, ↓reduceIte, t9]
      · simp (maxDischargeDepth := 40) only [Nat.reduceEqDiff, put_tmps, ↓reduceIte, t10]
      · simp (maxDischargeDepth := 40) only [Nat.reduceEqDiff, put_tmps, ↓reduceIte, t4]
      · exact hc.set hN' (by decide) (by decide) _
      · rw [AH.get_set_same, hne]; rfl
      · exact (hk.weak fun b _ h => .inl h).set (.inl (.inr rfl)) _
  · have hl : lastR (wholeR r) n = (getR r 1).1 := by
      have hw : wholeR r = (getR r 1).1 := by rw [hw, if_neg (fun g => he g.1)]
      rw [lastR_stop (by rw [hw]; exact he), hw]
    rw [hl] at hpan
    simp (maxDischargeDepth := 40) only [app_seq_panic]
    refine hpan he _ _ _ ?_ (hK.trans hk) hc
    simp only [put_defers, hd]

end Go.Am.Q

/- Notes, got again: the walk. -/
set_option linter.unusedSimpArgs false
set_option linter.unusedSectionVars false
set_option maxRecDepth 20000
namespace Go.Am.Q
open Go Go.Am Go.Proofs
variable [F : Fr]

def i64s (l : List Nat) : List Value := l.map fun x => .int .i64 ((x : Nat) : Int)

theorem i64s_length (l : List Nat) : (i64s l).length = l.length := by simp [i64s]

/-- A note's cells, so many of whose numbers are there. -/
def halfN (number : Nat) (l : List Nat) (j : Nat) : List Value := .int .u64 (number : Int) :: (i64s l ++ (List.replicate (6 - j) (Value.int .i64 0) ++ [.bool false]))

theorem halfN_length {number : Nat} {l : List Nat} {j : Nat} (h : l.length = j) (hj : j ≤ 6) : (halfN number l j).length = 8 := by
  simp only [halfN, List.length_append, List.length_cons, i64s_length, List.length_replicate, List.length_nil]
  omega

theorem halfN_set {number : Nat} {l : List Nat} {j : Nat} (h : l.length = j) (hj : j < 6) (x : Nat) :
    (halfN number l j).take (1 + j) ++ [Value.int .i64 (x : Int)] ++ (halfN number l j).drop (1 + j + 1) = halfN number (l ++ [x]) (j + 1) := by
  have hl : (i64s l).length = j := by rw [i64s_length, h]
  have e1 : 6 - j = (6 - (j + 1)) + 1 := by omega
  unfold halfN
  rw [show 1 + j = j + 1 by omega, List.take_succ_cons, List.drop_succ_cons, List.take_append_of_le_length (by omega), List.take_of_length_le (by omega)]
  rw [e1, List.replicate_succ]
  have : (i64s l ++ (Value.int .i64 0 :: List.replicate (6 - (j + 1)) (Value.int .i64 0) ++ [Value.bool false])).drop (j + 1) = List.replicate (6 - (j + 1)) (Value.int .i64 0) ++ [Value.bool false] := by
    rw [List.drop_append, List.drop_of_length_le (by omega), hl]
    have : j + 1 - j = 1 := by omega
    rw [this]
    simp
  rw [this]
  simp [i64s]

def ptrs (nb : Nat) : List Value := (List.range 6).map fun j => .pointer (some ⟨nb, 1 + j, none⟩)

theorem ptrs_get {nb j : Nat} (h : j < 6) : (ptrs nb)[j]? = some (.pointer (some ⟨nb, 1 + j, none⟩)) := by
  simp [ptrs, h]

/-- The numbers of a note, where they lie. -/
structure Mq (H0 : AH) (cb nb pb count i j : Nat) (v : Value) (acc : List NoteV) (r : RdV) (number : Nat) (l : List Nat) (a : AAct) (H : AH) : Prop where
  lp : Lq H0 cb count i v acc r a H
  t4 : a.tmps 4 = some (ptr nb)
  hN : H.get nb = some (.cells (halfN number l j) 32)
  lo : H0.next ≤ nb
  hi : nb < H.next
  own : ∀ b, v = .slice (some ⟨b, 0, none⟩) acc.length unk → b ≠ nb
  t21 : a.tmps 21 = some (.slice (some ⟨pb, 0, none⟩) 6 6)
  t22 : a.tmps 22 = some (.int .i64 6)
  t23 : a.tmps 23 = some (.int .i64 j)
  hP : H.get pb = some (.cells (ptrs nb) 87)
  hl : l.length = j
  ph : pb < H.next

theorem bq0 {H0 : AH} {cb nb pb count i j : Nat} {v : Value} {acc : List NoteV} {r : RdV} {number : Nat} {l : List Nat} {a : AAct} {H : AH} (K : Kont) (hr : r.Ok) (hj : j ≤ 6)
    (h : Mq H0 cb nb pb count i j v acc r number l a H)
    (hpan : j < 6 → (numberR r most40).1.e ≠ 0 → ∀ a' H' r', a'.defers = [] → KeepIf (· = cb) H0 H' → CurAt H' cb r' → app E (fnOf P) pur5 (plsOf plans 10) K (.panic [fault cb (numberR r most40).1.e]) a' H')
    (go : j < 6 → (numberR r most40).1.e = 0 → ∀ a' H', Mq H0 cb nb pb count i (j + 1) v acc (numberR r most40).1 number (l ++ [(numberR r most40).2]) a' H' → app E (fnOf P) pur5 (plsOf plans 10) K .normal a' H')
    (out : j = 6 → ∀ a' H', Mq H0 cb nb pb count i 6 v acc r number l a' H' → app E (fnOf P) pur5 (plsOf plans 10) K (.exit 2) a' H') :
    WK E (fnOf P) pur5 (plsOf plans 10) body10_0 K a H := by
  obtain ⟨⟨hn, hd, t0, t3, t9, t10, hown, hcur, hlt, hK⟩, t4, hN, hlo, hhi, hob, t21, t22, t23, hP, hl, hph⟩ := h
  have hkk := hK.1
  by_cases hj6 : j < 6
  · have d0 : decide ((j : Int) < 6) = true := by simp; omega
    have hpan := hpan hj6
    have go := go hj6
    have n33 : pur5 33 [ptr cb, .int .u64 1099511627776] = none := rfl
    obtain ⟨s1, s2⟩ := take_one (ptrs_get (nb := nb) hj6)
    have ia : aIndexAddr E.ty 88 (.slice (some ⟨pb, 0, none⟩) 6 6) (.int .i64 (j : Int)) = some (.pointer (some ⟨pb, j, none⟩)) := by
      rw [aIndexAddr_slice ty88 rfl ty87 hj6]; simp
    have f3 : IntKind.i64.wrap ((j : Int) + 1) = ((j + 1 : Nat) : Int) := by rw [wrap_i64 (by omega) (by omega)]; simp
    have hnc : nb ≠ cb := by omega
    have hpc : pb ≠ cb := hcur.ne hP (by decide)
    have hpn : pb ≠ nb := by rintro rfl; rw [hN] at hP; cases hP
    have hle := numberR_le (r := r) most40
    have f4 := conv_i64 hle
    simp (maxDischargeDepth := 40) only [Nat.reduceEqDiff, Nat.reduceLT, reduceCtorEq, WK_skip, WK_seq, WK_cond, WK_block, WK_region, WLK_nil, WLK_cons, app_seq_normal, ne_eq, not_true_eq_false, List.head?_cons, isAggD, aLoad, List.cons_append, AH.load, want, dstOk, opR, opE, opC, ev, evs, put_n, put_tmps, selfRel, aNilNil, nilC_tmp, opCallR, ↓bind_match, ↓reduceIte, Bool.false_eq_true, decide_true, Bool.or_self, Bool.false_eq_true, true_and, List.cons_append, List.nil_append, body10_0, aBin_int, intBin, ty87, hn, t0, t21, t22, t23, d0, ia, hP, s1, s2, n33, fn33, ex33]
    refine CallK_cur (number_walk hcur hr most40) (fun he H' hk hc => ?_) (fun he H' r' hk hc => ?_)
    · have hN' : H'.get nb = some (.cells (halfN number l j) 32) := by rw [hk.2 nb hhi hnc]; exact hN
      have hP' : H'.get pb = some (.cells (ptrs nb) 87) := by rw [hk.2 pb hph hpc]; exact hP
      have hk1 := hk.1
      have hlen := halfN_length (number := number) hl hj
      have hset := halfN_set (number := number) hl hj6 (numberR r most40).2
      have d1 : (1 + j + 1 ≤ 8) = True := by simp; omega
      simp (maxDischargeDepth := 40) only [Nat.reduceEqDiff, Nat.reduceLT, WK_region, WLK_nil, WLK_cons, app_seq_normal, app_block_normal, ne_eq, not_true_eq_false, List.all_cons, List.all_nil, oc_int, cells_int, Bool.and_self, aStore, List.length_cons, List.length_nil, Nat.zero_add, aConvert, AH.store, splice, want, dstOk, opR, opE, ev, put_n, put_tmps, put_none, selfRel, aNilNil, nilC_tmp, nilC_int, ↓bind_match, ↓map_match, ↓reduceIte, Bool.false_eq_true, decide_true, Bool.or_self, Bool.false_eq_true, true_and, and_true, List.toList_toArray, List.size_toArray, aBin_int, intBin, ty3, ty30, hn, t23, hN', f3, f4, hlen, hset, d1]
      refine go he _ _ ⟨⟨?_, ?_, ?_, ?_, ?_, ?_, ?_, ?_, hlt, ?_⟩, ?_, ?_, hlo, ?_, hob, ?_, ?_, ?_, ?_, ?_, ?_⟩
      · simp only [put_n, hn]
      · simp only [put_defers, hd]
      · simp (maxDischargeDepth := 40) only [reduceCtorEq, put_tmps, ↓reduceIte, t0]
      · simp (maxDischargeDepth := 40) only [Nat.reduceEqDiff, put_tmps, ↓reduceIte, t3]
      · simp (maxDischargeDepth := 40) only [Nat.reduceEqDiff, put_tmps, ↓reduceIte, t9]
      · simp (maxDischargeDepth := 40) only [Nat.reduceEqDiff, put_tmps, ↓reduceIte, t10]
      · rcases hown with h | ⟨b, hv, hb1, hb2, hb3⟩
        · exact .inl h
        · exact .inr ⟨b, hv, hb1, by simp only [AH.next_set]; omega, by rw [AH.get_set_ne _ _ _ _ (hob b hv), hk.2 b hb2 (by omega)]; exact hb3⟩
      · exact hc.set hN' (by decide) (by decide) _
      · exact ((hK.trans hk).set (.inr hlo) _)
      · simp (maxDischargeDepth := 40) only [Nat.reduceEqDiff, put_tmps, ↓reduceIte, t4]
      · rw [AH.get_set_same]
      · simp only [AH.next_set]; omega
      · simp (maxDischargeDepth := 40) only [Nat.reduceEqDiff, put_tmps, ↓reduceIte, t21]
      · simp (maxDischargeDepth := 40) only [Nat.reduceEqDiff, put_tmps, ↓reduceIte, t22]
      · simp (maxDischargeDepth := 40) only [put_tmps, ↓reduceIte]
      · rw [AH.get_set_ne _ _ _ _ hpn]; exact hP'
      · simp [hl]
      · simp only [AH.next_set]; omega
    · simp (maxDischargeDepth := 40) only [app_seq_panic, app_block_panic]
      refine hpan he _ _ _ ?_ (hK.trans hk) hc
      simp only [put_defers, hd]
  · have d0 : decide ((j : Int) < 6) = false := by simp; omega
    have hj6' : j = 6 := by omega
    subst hj6'
    have out := out rfl
    simp (maxDischargeDepth := 40) only [Nat.reduceLT, WK_exit, WK_seq, WK_cond, WK_region, WLK_nil, WLK_cons, app_seq_normal, app_seq_exit, ne_eq, not_true_eq_false, want, dstOk, opR, ev, put_tmps, aNilNil, nilC_tmp, ↓bind_match, ↓reduceIte, Bool.false_eq_true, decide_true, Bool.or_self, Bool.false_eq_true, true_and, body10_0, aBin_int, intBin, hn, t22, t23, d0]
    refine out _ _ ⟨⟨?_, ?_, ?_, ?_, ?_, ?_, hown, hcur, hlt, hK⟩, ?_, hN, hlo, hhi, hob, ?_, ?_, ?_, hP, hl, hph⟩
    · simp only [put_n, hn]
    · simp only [put_defers, hd]
    all_goals simp (maxDischargeDepth := 40) only [Nat.reduceEqDiff, reduceCtorEq, put_tmps, ↓reduceIte, t0, t3, t9, t10, t4, t21, t22, t23]

theorem bs88 (H : AH) (nb : Nat) : aBuildSlice E.ty H 88 6 #[(0, .pointer (some ⟨nb, 1, none⟩)), (1, .pointer (some ⟨nb, 2, none⟩)), (2, .pointer (some ⟨nb, 3, none⟩)), (3, .pointer (some ⟨nb, 4, none⟩)), (4, .pointer (some ⟨nb, 5, none⟩)), (5, .pointer (some ⟨nb, 6, none⟩))] =
    some (.slice (some ⟨H.next, 0, none⟩) 6 6, H.push (.cells (ptrs nb) 87)) := by
  have hz : zeroRow ⟨.pointer 3, 1, 8, .pointer none⟩ (6 * 1) = #[.pointer none, .pointer none, .pointer none, .pointer none, .pointer none, .pointer none] := by kernel_rfl
  have hf : Instr.fill (fun i => some (i * 1, 1)) #[.pointer none, .pointer none, .pointer none, .pointer none, .pointer none, .pointer none]
      [(0, .pointer (some ⟨nb, 1, none⟩)), (1, .pointer (some ⟨nb, 2, none⟩)), (2, .pointer (some ⟨nb, 3, none⟩)), (3, .pointer (some ⟨nb, 4, none⟩)), (4, .pointer (some ⟨nb, 5, none⟩)), (5, .pointer (some ⟨nb, 6, none⟩))] =
      some #[.pointer (some ⟨nb, 1, none⟩), .pointer (some ⟨nb, 2, none⟩), .pointer (some ⟨nb, 3, none⟩), .pointer (some ⟨nb, 4, none⟩), .pointer (some ⟨nb, 5, none⟩), .pointer (some ⟨nb, 6, none⟩)] := by
    simp [Instr.fill, cells_ptr]
  simp only [aBuildSlice, ty88, ty87, hz, hf, Option.bind_some, List.all_cons, List.all_nil, oc_ptr, Bool.and_self]
  rfl

theorem b32 (x : Int) : aBuild E.ty 32 #[(0, .int .u64 x)] = some (.agg #[.int .u64 x, .int .i64 0, .int .i64 0, .int .i64 0, .int .i64 0, .int .i64 0, .int .i64 0, .bool false]) := by rfl

theorem noteR_1 (r : RdV) : (noteR r).1 = lastR (wholeR (numsP 6 (numberR r most40).1).1) (noteR r).2 := by
  simp only [noteR, lastR]
  congr

theorem noteR_2 (r : RdV) : (noteR r).2 = noteOf (numberR r most40).2 (numsP 6 (numberR r most40).1).2 (getR (numsP 6 (numberR r most40).1).1 1).2 := by
  simp only [noteR]

theorem six {l : List Nat} (h : l.length = 6) : ∃ x0 x1 x2 x3 x4 x5, l = [x0, x1, x2, x3, x4, x5] := by
  match l, h with
  | [x0, x1, x2, x3, x4, x5], _ => exact ⟨_, _, _, _, _, _, rfl⟩

set_option maxHeartbeats 1000000 in
theorem bq1 {H0 : AH} {cb count i : Nat} {v : Value} {acc : List NoteV} {r : RdV} {a : AAct} {H : AH} (K : Kont) (hr : r.Ok) (hal : acc.length ≤ 65536) (hc : count ≤ 65536)
    (h : Lq H0 cb count i v acc r a H)
    (hpan : i < count → (noteR r).1.e ≠ 0 → ∀ a' H' r', a'.defers = [] → KeepIf (· = cb) H0 H' → CurAt H' cb r' → app E (fnOf P) pur5 (plsOf plans 10) K (.panic [fault cb (noteR r).1.e]) a' H')
    (hgo : i < count → (noteR r).1.e = 0 → ∀ a' H' v', Lq H0 cb count (i + 1) v' (acc ++ [(noteR r).2]) (noteR r).1 a' H' → app E (fnOf P) pur5 (plsOf plans 10) K .normal a' H')
    (hout : count ≤ i → ∀ a' H', Lq H0 cb count i v acc r a' H' → app E (fnOf P) pur5 (plsOf plans 10) K (.exit 0) a' H') :
    WK E (fnOf P) pur5 (plsOf plans 10) body10_1 K a H := by
  have hL := h
  obtain ⟨hn, hd, t0, t3, t9, t10, hown, hcur, hlt, hK⟩ := h
  have hkk := hK.1
  by_cases hi : i < count
  · have d0 : decide ((i : Int) < (count : Int)) = true := by simp; omega
    have hpan := hpan hi
    have hgo := hgo hi
    have n33 : pur5 33 [ptr cb, .int .u64 1099511627776] = none := rfl
    have hq := (numberR_ok hr most40).1
    have hnl : (numberR r most40).2 ≤ most40 := numberR_le _
    have f3 : IntKind.u64.wrap ((i : Int) + 1) = ((i + 1 : Nat) : Int) := by
      have : ((i : Int) + 1) = ((i + 1 : Nat) : Int) := by simp
      rw [this, wrap_u64, Nat.mod_eq_of_lt (by omega)]
    simp (maxDischargeDepth := 40) only [Nat.reduceLT, reduceCtorEq, WK_skip, WK_seq, WK_cond, WK_block, WK_region, WLK_nil, WLK_cons, app_seq_normal, ne_eq, not_true_eq_false, List.cons_append, want, dstOk, opR, opE, opC, ev, evs, put_n, put_tmps, selfRel, aNilNil, nilC_tmp, opCallR, ↓bind_match, ↓reduceIte, Bool.false_eq_true, decide_true, Bool.or_self, Bool.false_eq_true, true_and, List.cons_append, List.nil_append, body10_1, aBin_int, intBin, hn, t0, t9, t10, d0, n33, fn33, ex33]
    refine CallK_cur (number_walk hcur hr most40) (fun he H1 hk hc => ?_) (fun he H1 r' hk hc => ?_)
    rotate_left
    · have hst : (noteR r).1.e = (numberR r most40).1.e := by
        rw [noteR_1, numsP_stop he, wholeR_stop he, lastR_stop he]
      rw [hst] at hpan
      simp (maxDischargeDepth := 40) only [app_seq_panic, app_block_panic]
      refine hpan he _ _ _ ?_ (hK.trans hk) hc
      simp only [put_defers, hd]
    · have hk1 := hk.1
      have hnt : (noteR r).2 = noteOf (numberR r most40).2 (numsP 6 (numberR r most40).1).2 (getR (numsP 6 (numberR r most40).1).1 1).2 := noteR_2 r
      have hbs := fun H => bs88 H H1.next
      have e88 : ∀ H a, aLen E.ty H 88 (.slice a 6 6) = some (.int .i64 6) := fun H a => aLen_slice ty88 rfl _ _ _
      simp (maxDischargeDepth := 40) only [Nat.reduceEqDiff, Nat.reduceLT, Nat.reduceAdd, Nat.le_refl, WK_seq, WK_block, WK_loop, WK_region, WLK_nil, WLK_cons, app_seq_normal, List.drop_succ_cons, List.all_cons, List.all_nil, oc_int, oc_bool, cells_agg, Bool.and_self, aNew, aAlloc, aFieldAddr, aStore, List.cons_append, List.take_zero, List.drop_zero, List.length_cons, List.length_nil, Nat.zero_add, AH.store, splice, AH.get_push, AH.next_push, AH.next_set, Nat.succ_ne_self, want, dstOk, opR, opE, ev, evs, evParts, put_n, put_tmps, put_none, selfRel, opCallR, ↓bind_match, ↓map_match, ↓reduceIte, decide_true, true_and, and_true, List.toList_toArray, List.size_toArray, List.getElem?_toArray, List.getElem?_cons_zero, List.getElem?_cons_succ, List.cons_append, List.nil_append, tail10_5, ty3, ty32, b32, hbs, e88, hn]
      refine ⟨fun m a' H' => ∃ j, j + m = 6 ∧ (numsP j (numberR r most40).1).1.e = 0 ∧ Mq H0 cb H1.next (H1.next + 1) count i j v acc (numsP j (numberR r most40).1).1 (numberR r most40).2 (numsP j (numberR r most40).1).2 a' H', 6,
        ⟨0, rfl, he, ⟨⟨?_, ?_, ?_, ?_, ?_, ?_, ?_, ?_, hlt, ?_⟩, ?_, ?_, ?_, ?_, ?_, ?_, ?_, ?_, ?_, ?_, ?_⟩⟩, ?_⟩
      · simp only [put_n, hn]
      · simp only [put_defers, hd]
      · simp (maxDischargeDepth := 40) only [reduceCtorEq, put_tmps, ↓reduceIte, t0]
      · simp (maxDischargeDepth := 40) only [Nat.reduceEqDiff, put_tmps, ↓reduceIte, t3]
      · simp (maxDischargeDepth := 40) only [Nat.reduceEqDiff, put_tmps, ↓reduceIte, t9]
      · simp (maxDischargeDepth := 40) only [Nat.reduceEqDiff, put_tmps, ↓reduceIte, t10]
      · rcases hown with h | ⟨b, hv, hb1, hb2, hb3⟩
        · exact .inl h
        · have hz := hk.2 b hb2 (by omega)
          have p_0_1 : ¬ b = H1.next := by omega
          have p_0_2 : ¬ b = H1.next + 1 := by omega
          have p_1_0 : ¬ H1.next = b := by omega
          have p_1_2 : ¬ H1.next = H1.next + 1 := by omega
          have p_2_0 : ¬ H1.next + 1 = b := by omega
          have p_2_1 : ¬ H1.next + 1 = H1.next := by omega
          exact .inr ⟨b, hv, hb1, by simp only [AH.next_set, AH.next_push]; omega, by simp only [AH.get_set, AH.get_push, AH.next_set, AH.next_push, p_0_1, p_0_2, if_false, hz]; exact hb3⟩
      · refine CurAt.push ((hc.push _).set (c := H1.next) (AH.get_push_same _ _) (by decide) (by decide) _) _
      · exact (((hK.trans hk).push _).set (.inr (by omega)) _).push _
      · simp (maxDischargeDepth := 40) only [Nat.reduceEqDiff, put_tmps, ↓reduceIte]
      · simp (maxDischargeDepth := 40) only [Option.some.injEq, AH.get_push, AH.get_set, AH.next_push, AH.next_set, Nat.left_eq_add, Nat.succ_ne_self, ↓reduceIte]
        rfl
      · omega
      · simp only [AH.next_set, AH.next_push]; omega
      · intro b hv
        rcases hown with ⟨h, _⟩ | ⟨b', hv', hb1, hb2, hb3⟩
        · rw [h] at hv; cases hv
        · rw [hv] at hv'; cases hv'; omega
      · simp (maxDischargeDepth := 40) only [Nat.reduceEqDiff, put_tmps, ↓reduceIte]
      · simp (maxDischargeDepth := 40) only [Nat.reduceEqDiff, put_tmps, ↓reduceIte]
      · simp (maxDischargeDepth := 40) only [Option.some.injEq, put_tmps, ↓reduceIte]
        rfl
      · simp (maxDischargeDepth := 40) only [AH.get_push, AH.next_push, AH.next_set, ↓reduceIte]
      · rfl
      · simp only [AH.next_set, AH.next_push]; omega
      · rintro m a' H' ⟨j, hjm, he0, hN⟩
        obtain ⟨hp1, hp2, hp3⟩ := numsP_ok hq j
        refine bq0 _ hp1 (by omega) hN (fun hj he2 a2 H2 r2 e1 e2 e3 => ?_) (fun hj he2 a2 H2 h2 => ?_) (fun hj a2 H2 h2 => ?_)
        · have hst : (noteR r).1.e = (numberR (numsP j (numberR r most40).1).1 most40).1.e := by
            have key : ∀ k, j + 1 ≤ k → (numsP k (numberR r most40).1).1 = (numberR (numsP j (numberR r most40).1).1 most40).1 := by
              intro k hk
              induction hk with
              | refl => rfl
              | step hk ih =>
                rename_i k2
                have : (numsP (k2 + 1) (numberR r most40).1).1 = (numberR (numsP k2 (numberR r most40).1).1 most40).1 := rfl
                rw [this, ih, numberR_stop he2]
            rw [noteR_1, key 6 (by omega), wholeR_stop he2, lastR_stop he2]
          rw [hst] at hpan
          simp only [app_inv_panic, app_block_panic, app_seq_panic]
          exact hpan he2 _ _ _ e1 e2 e3
        · simp only [app_inv_normal]
          exact ⟨m - 1, by omega, j + 1, by omega, he2, h2⟩
        · subst hj
          simp only [app_inv_exit, app_block_exit, if_true, app_seq_normal]
          obtain ⟨x0, x1, x2, x3, x4, x5, hx⟩ := six hp2
          have hno := (noteR_ok hr).2
          rw [noteR_1] at hpan hgo
          obtain ⟨nn, hnn⟩ : ∃ nn, nn = (noteR r).2 := ⟨_, rfl⟩
          rw [← hnn] at hpan hgo hno hnt
          obtain ⟨q1, q2, q3, q4, q5, q6, q7, q8, q9, q10, q11, q12⟩ := h2
          refine tq10 (n0 := ⟨(numberR r most40).2, x0, x1, x2, x3, x4, x5, false⟩) (n := nn) _ hp1 hno ?_ ⟨q1, q2, ?_, q4, q5, q6⟩ (fun he2 a3 H3 r3 e1 e2 e3 => ?_) (fun he2 a3 H3 h3 => ?_)
          · rw [hnt, hx]; rfl
          · rw [hx] at q3; exact q3
          · simp only [app_block_panic, app_seq_panic]
            exact hpan he2 a3 H3 r3 e1 e2 e3
          · refine tq16 _ hal h3 fun a4 H4 v' h4 => ?_
            obtain ⟨q0, q1, q2, q3, q4, q5, q6, q7, q8, q9⟩ := h4
            simp (maxDischargeDepth := 40) only [Nat.reduceLT, WK_region, WLK_nil, WLK_cons, app_seq_normal, app_block_normal, ne_eq, not_true_eq_false, want, dstOk, opR, ev, put_n, put_tmps, selfRel, aNilNil, nilC_tmp, nilC_int, ↓bind_match, ↓reduceIte, Bool.false_eq_true, decide_true, Bool.or_self, Bool.false_eq_true, true_and, aBin_int, intBin, q0, q5, f3]
            refine hgo he2 _ _ v' ⟨?_, ?_, ?_, ?_, ?_, ?_, q6, q7, q8, q9⟩
            · simp only [put_n, q0]
            · simp only [put_defers, q1]
            all_goals simp (maxDischargeDepth := 40) only [Nat.reduceEqDiff, reduceCtorEq, put_tmps, ↓reduceIte, q2, q3, q4]
  · have d0 : decide ((i : Int) < (count : Int)) = false := by simp; omega
    have hout := hout (by omega)
    simp (maxDischargeDepth := 40) only [Nat.reduceLT, WK_exit, WK_seq, WK_cond, WK_region, WLK_nil, WLK_cons, app_seq_normal, app_seq_exit, ne_eq, not_true_eq_false, want, dstOk, opR, ev, put_tmps, aNilNil, nilC_tmp, ↓bind_match, ↓reduceIte, Bool.false_eq_true, decide_true, Bool.or_self, Bool.false_eq_true, true_and, body10_1, aBin_int, intBin, hn, t9, t10, d0]
    refine hout _ _ ⟨?_, ?_, ?_, ?_, ?_, ?_, hown, hcur, hlt, hK⟩
    · simp only [put_n, hn]
    · simp only [put_defers, hd]
    all_goals simp (maxDischargeDepth := 40) only [Nat.reduceEqDiff, reduceCtorEq, put_tmps, ↓reduceIte, t0, t3, t9, t10]

/-- What comes of notes that are got. -/
def NotesR (H : AH) (cb : Nat) (q : RdV × List NoteV) : Ending → AH → Prop := fun en H' => KeepIf (· = cb) H H' ∧
  if q.1.e = 0 then ∃ v, en = .returned v ∧ OwnE 32 H.next H' v q.2 ∧ CurAt H' cb q.1 else en = .panicked [fault cb q.1.e] ∧ ∃ r', CurAt H' cb r'

theorem nget_walk {H0 : AH} {cb : Nat} {r : RdV} (h : CurAt H0 cb r) (hr : r.Ok) : ACalls P 10 [ptr cb] H0 (NotesR H0 cb (getNR r)) := by
  refine ACalls_K E (fnOf_ok P) mixed pur5_ok fn10 ok10 sx10 (by simp [nt10]) ?_
  simp only [nt10]
  have hq := (numberR_ok hr 65536).1
  have hnl : (numberR r 65536).2 ≤ 65536 := numberR_le _
  have n33 : pur5 33 [ptr cb, .int .u64 65536] = none := rfl
  have hlt := h.2.1
  have hve := varR_err (r := r)
  generalize hW : getNR r = W
  simp (maxDischargeDepth := 40) only [Nat.reduceLT, reduceCtorEq, WK_seq, WK_region, WLK_nil, WLK_cons, app_seq_normal, List.cons_append, want, dstOk, opR, opE, opC, ev, evs, entry, argT, put_n, put_tmps, selfRel, opCallR, ↓bind_match, ↓reduceIte, decide_true, true_and, List.cons_append, List.nil_append, code10, n33, fn33, ex33]
  refine CallK_cur (number_walk h hr 65536) (fun he H1 hk hc => ?_) (fun he H1 r' hk hc => ?_)
  · unfold getNR at hW
    generalize hg : numberR r 65536 = g at hq hnl he hc hW
    obtain ⟨q, count⟩ := g
    simp only at hq hnl he hc hW
    simp (maxDischargeDepth := 40) only [Nat.reduceLT, WK_block, WK_loop, WLK_nil, WLK_cons, app_seq_normal, want, dstOk, opR, ev, put_n, selfRel, ↓reduceIte, decide_true, true_and]
    refine ⟨fun k a' H' => ∃ i v acc r', i + k = count ∧ r'.Ok ∧ acc.length = i ∧ notesR k r' acc = W ∧ Lq H0 cb count i v acc r' a' H', count,
      ⟨0, .slice none 0 0, [], q, by omega, hq, rfl, hW, ⟨?_, ?_, ?_, ?_, ?_, ?_, ?_, hc, hlt, hk⟩⟩, ?_⟩
    · rfl
    · rfl
    · simp (maxDischargeDepth := 40) only [reduceCtorEq, put_tmps, ↓reduceIte]
    · simp (maxDischargeDepth := 40) only [Nat.reduceEqDiff, put_tmps, ↓reduceIte]
    · simp (maxDischargeDepth := 40) only [Nat.reduceEqDiff, put_tmps, ↓reduceIte]
    · simp (maxDischargeDepth := 40) only [Option.some.injEq, put_tmps, ↓reduceIte]
      rfl
    · exact .inl ⟨rfl, rfl⟩
    · rintro k a' H' ⟨i, v, acc, r', hik, hr', hacc, hWW, hL⟩
      refine bq1 _ hr' (by omega) hnl hL (fun hi he a2 H2 r2 e1 e2 e3 => ?_) (fun hi he a2 H2 v2 h2 => ?_) (fun hi a2 H2 h2 => ?_)
      · cases k with
        | zero => omega
        | succ k =>
          rw [notesR, if_pos he] at hWW
          subst hWW
          simp (maxDischargeDepth := 40) only [app_fin, app_seq_panic, app_block_panic, app_inv_panic, true_and, ABody, e1]
          exact ⟨e2, by rw [if_neg he]; exact ⟨rfl, _, e3⟩⟩
      · cases k with
        | zero => omega
        | succ k =>
          rw [notesR, if_neg (by omega)] at hWW
          simp only [app_inv_normal]
          exact ⟨k, by omega, i + 1, v2, _, _, by omega, (noteR_ok hr').1, by simp [hacc], hWW, h2⟩
      · cases k with
        | succ k => omega
        | zero =>
          rw [notesR] at hWW
          subst hWW
          obtain ⟨q0, q1, q2, q3, q4, q5, q6, q7, q8, q9⟩ := h2
          simp (maxDischargeDepth := 40) only [Nat.reduceLT, WK_ret, WK_seq, WK_region, WLK_nil, WLK_cons, app_fin, app_seq_normal, app_block_exit, app_inv_exit, Option.some.injEq, exists_eq_left', want, dstOk, opR, ev, put_n, put_tmps, put_defers, ↓reduceIte, decide_true, true_and, ABody, aResults, aResult, tupleOf, rs10, q0, q1, q3]
          exact ⟨q9, by rw [if_pos (show r'.e = 0 from q7.1)]; exact ⟨v, rfl, q6, q7⟩⟩
  · have hz : (numberR r 65536).2 = 0 := by
      unfold numberR at he ⊢
      split
      · rfl
      · rename_i hc; rw [if_neg hc] at he; exact hve he
    have : W = ((numberR r 65536).1, []) := by rw [← hW]; unfold getNR; rw [hz]; rfl
    subst this
    simp (maxDischargeDepth := 40) only [app_fin, app_seq_panic, put_defers, true_and, ABody]
    exact ⟨hk, by rw [if_neg he]; exact ⟨rfl, _, hc⟩⟩

end Go.Am.Q
