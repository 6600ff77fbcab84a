/- cursor.Run, with what it defers and recovers; ReportBytes itself, but for its example. -/
import Derived.Test.YtdicnaninnmoeaaGreatAmV
import Derived.Test.YtdicnaninnmoeaaGreatKg
import Derived.Test.YtdicnaninnmoeaaGreatKh
set_option linter.unusedSectionVars false
set_option linter.unusedSimpArgs false
set_option linter.unusedVariables false
set_option linter.unnecessarySimpa false
/- A reading: from its bytes to its end. -/
set_option linter.unusedSimpArgs false
set_option linter.unusedSectionVars false
set_option maxRecDepth 20000
namespace Go.Am.Q
open Go Go.Am Go.Proofs
variable [F : Fr]

/-- What a reading's end leaves. -/
theorem run1_ret {H : AH} {cb tb ab eb pos : Nat} {v x y : Value} {lv : Bool} (h6 : H.get tb = some (.cells [ptr cb] 39)) (hc : H.get cb = some (.cells [v, .int .i64 pos, .bool lv] 83))
    (h4 : H.get ab = some (.cells [x] 3)) (h5 : H.get eb = some (.cells [y] 35)) {R : Ending → AH → FrameMode → Prop}
    (hR : R (.returned (.tuple #[])) ((H.set cb (some (.cells [v, .int .i64 pos, .bool false] 83))).set ab (some (.cells [.int .i64 pos] 3))) .returning) :
    ACallsD P 32 [ptr tb, ptr ab, ptr eb] .returning H R := by
  refine ACallsD_K E (fnOf_ok P) mixed pur0_ok fn32 ok32 sx32 (by simp [nt32]) ?_
  simp only [nt32]
  have n1 : ¬ tb = cb := by rintro rfl; rw [h6] at hc; cases hc
  have n2 : ¬ ab = cb := by rintro rfl; rw [h4] at hc; cases hc
  simp (maxDischargeDepth := 40) only [Nat.reduceEqDiff, Nat.reduceLT, Nat.reduceLeDiff, reduceCtorEq, Nat.reduceAdd, Nat.le_refl, Nat.reduceLeDiff,  WK_seq, WK_cond, WK_block, WK_region, WLK_nil, WLK_cons, app_fin, app_seq_normal, app_block_normal, List.take_succ_cons, List.drop_succ_cons, List.head?_cons, isAggD, List.all_cons, List.all_nil, oc_int, oc_bool, cells_int, cells_bool, Bool.and_self, aFieldAddr, aLoad, aStore, List.cons_append, List.take_zero, List.drop_zero, List.length_cons, List.length_nil, Nat.zero_add, Option.some.injEq, exists_eq_left', AH.load, AH.store, splice, AH.get_set, Nat.succ_ne_self, want, dstOk, opR, opE, opC, ev, entry, argT, put_n, put_tmps, put_none, put_defers, selfRel, aNilNil, nilC_tmp, nilC_iface, ↓bind_match, ↓map_match, ↓reduceIte, Bool.false_eq_true, decide_true, Bool.false_eq_true, true_and, and_true, List.toList_toArray, List.size_toArray, List.getElem?_toArray, List.getElem?_cons_zero, List.getElem?_cons_succ, List.cons_append, List.nil_append, aResults, tupleOf, code32, rs32, WS, recOf, isRec, recM, Option.isNone_none, ABodyS, Bool.or_true, ty3, ty4, ty20, ty39, ty83, h6, hc, h4, n1, n2]
  exact hR

theorem run1_fault {H : AH} {cb tb ab eb pos e : Nat} {v x y : Value} {lv : Bool} (h6 : H.get tb = some (.cells [ptr cb] 39)) (hc : H.get cb = some (.cells [v, .int .i64 pos, .bool lv] 83))
    (h4 : H.get ab = some (.cells [x] 3)) (h5 : H.get eb = some (.cells [y] 35)) (b1 : eb < H.next) (b2 : tb < H.next) {R : Ending → AH → FrameMode → Prop}
    (hR : R (.returned (.tuple #[])) ((((((H.set cb (some (.cells [v, .int .i64 pos, .bool false] 83))).set ab (some (.cells [.int .i64 pos] 3))).push (.cells [.pointer none, .int .i64 0] 85)).set H.next
      (some (.cells [ptr cb, .int .i64 e] 85)))).set eb (some (.cells [.int .i64 e] 35))) (.panicking [{ v := (fault cb e).v, recovered := true }])) :
    ACallsD P 32 [ptr tb, ptr ab, ptr eb] (.panicking [fault cb e]) H R := by
  refine ACallsD_K E (fnOf_ok P) mixed pur0_ok fn32 ok32 sx32 (by simp [nt32]) ?_
  simp only [nt32]
  have n1 : ¬ tb = cb := by rintro rfl; rw [h6] at hc; cases hc
  have n2 : ¬ ab = cb := by rintro rfl; rw [h4] at hc; cases hc
  have n3 : ¬ eb = cb := by rintro rfl; rw [h5] at hc; cases hc
  have n4 : ¬ tb = ab := by rintro rfl; rw [h6] at h4; cases h4
  have n5 : ¬ eb = ab := by rintro rfl; rw [h5] at h4; cases h4
  have n6 : ¬ eb = H.next := by omega
  have n7 : ¬ tb = H.next := by omega
  have e1 := eq_iface_nil (ty := E.ty) (eqOk := E.eqOk) ty20 rfl 85 (.agg #[ptr cb, .int .i64 (e : Int)])
  have e2 := ne_ptr_same (ty := E.ty) (eqOk := E.eqOk) ty39 rfl ty83 (by decide) cb 0
  simp (maxDischargeDepth := 40) only [Nat.reduceEqDiff, Nat.reduceLT, Nat.reduceLeDiff, reduceCtorEq, Nat.reduceAdd, Nat.le_refl, Nat.reduceLeDiff,  WK_skip, WK_seq, WK_cond, WK_block, WK_region, WLK_nil, WLK_cons, app_fin, app_seq_normal, app_seq_panic, app_block_normal, app_block_panic, List.take_succ_cons, List.drop_succ_cons, List.head?_cons, isAggD, List.all_cons, List.all_nil, oc_int, oc_bool, oc_ptr, cells_int, cells_bool, cells_agg, Bool.and_self, aNew, aAlloc, aFieldAddr, aLoad, aStore, List.cons_append, List.take_zero, List.drop_zero, List.length_cons, List.length_nil, Nat.zero_add, Option.some.injEq, exists_eq_left', AH.load, AH.store, splice, AH.get_push, AH.get_set, AH.next_set, Nat.succ_ne_self, want, dstOk, opR, opE, opC, ev, entry, argT, put_n, put_tmps, put_none, put_defers, selfRel, aNilNil, nilC_tmp, nilC_iface, ↓bind_match, ↓map_match, ↓reduceIte, Bool.false_eq_true, decide_true, Bool.or_self, Bool.false_eq_true, true_and, and_true, List.toList_toArray, List.size_toArray, List.getElem?_toArray, List.getElem?_cons_zero, List.getElem?_cons_succ, List.cons_append, List.nil_append, aResults, tupleOf, code32, rs32, WS, recOf, isRec, recM, fault, Option.isNone_none, ABodyS, Bool.or_true, ty3, ty4, ty20, ty35, ty39, ty83, ty85, aTypeAssert, aExtract, e1, e2, h6, hc, h4, h5, n1, n2, n3, n4, n5, n6, n7]
  exact hR

/-- What a reading's end keeps. -/
def RunK (H0 H2 H3 : AH) : Prop := H2.next ≤ H3.next ∧ (∀ b, b < H0.next → H3.get b = H2.get b) ∧
  ∀ b cs e, b < H2.next → H2.get b = some (.cells cs e) → e ≠ 83 → e ≠ 3 → e ≠ 35 → H3.get b = H2.get b

/-- How a reading's function may end. -/
def ReadR (H0 : AH) (cb : Nat) (Rd : Nat → AH → Prop) (H1 : AH) : Ending → AH → Prop := fun en H2 => ∃ e r', CurAt H2 cb r' ∧ KeepIf (fun b => b = cb ∨ b < H0.next) H1 H2 ∧ Rd e H2 ∧
  ((e = 0 ∧ ∃ v, en = .returned v) ∨ (e ≠ 0 ∧ en = .panicked [fault cb e]))

theorem b83 (a : Option Addr) (n c : Nat) : aBuild E.ty 83 #[(0, .slice a n c), (2, .bool true)] = some (.agg #[.slice a n c, .int .i64 0, .bool true]) := by rfl

theorem ABodyD_one {fns : FnT} {x y : FnI} {R : Ending → AH → Prop} {ex : Exit} {a : AAct} {H : AH} {d : Deferred} {g : FuncId} {cap : Array Value} {u : FrameMode} (hd : a.defers = [d]) (ht : d.target = .fn (.func g) cap)
    (hy : fns g = some y) (hu : match ex with | .normal | .ret => u = .returning | .panic ch => u = .panicking ch | _ => False)
    (h : ACallsD P g (d.args.toList ++ cap.toList) u H fun en H1 u1 =>
        match en with
        | .returned _ => settle u1 = .returning ∧ ∃ vs, aResults E a H1 x.results = some vs ∧ R (.returned (tupleOf vs)) H1
        | _ => False) : ABodyD E fns x R ex a H := by
  unfold ABodyD
  rw [hd]
  simp only [ht]
  exact ⟨y, u, hy, hu, h⟩

theorem run_walk {H0 : AH} {v : Value} {l : List UInt8} (hb : BytesV H0 v l) (hl : l.length ≤ 900000) {g : FuncId} {xg : FnI} (hg : fnOf P g = some xg) (hx : E.ext g = none) {cap : List Value} {Rd : Nat → AH → Prop}
    {R : Ending → AH → Prop} (hread : ∀ cb H1, CurAt H1 cb ⟨l, 0, 0⟩ → Keep H0 H1 → H0.next ≤ cb → ACalls P g (ptr cb :: cap) H1 (ReadR H0 cb Rd H1))
    (hR : ∀ e H2 H3 (pos : Nat), Rd e H2 → RunK H0 H2 H3 → R (.returned (.tuple #[.int .i64 pos, .int .i64 e])) H3) :
    ACalls P 7 [v, .func (.func g) #[] cap.toArray] H0 R := by
  refine ACalls_KD E (fnOf_ok P) mixed pur0_ok fn7 ok7 sx7 (by simp [nt7]) ?_
  simp only [nt7]
  have e1 := eq_func_nil (ty := E.ty) (eqOk := E.eqOk) ty41 rfl (.func g) #[] cap.toArray
  have hb1 : BytesV ((H0.push (.cells [.int .i64 0] 3)).push (.cells [.int .i64 0] 35)) v l := hb.keep (((Keep.refl H0).push _).push _)
  simp (maxDischargeDepth := 40) only [Nat.reduceEqDiff, Nat.reduceLT, reduceCtorEq, WK_skip, WK_seq, WK_cond, WK_region, WLK_nil, WLK_cons, app_seq_normal, List.all_cons, List.all_nil, oc_int, cells_int, Bool.and_self, aNew, aAlloc, List.cons_append, Nat.zero_add, AH.next_push, Nat.succ_ne_self, want, dstOk, opR, opE, opC, ev, evs, entry, argT, put_n, put_tmps, selfRel, aNilNil, nilC_tmp, nilC_func, opCallR, ↓bind_match, ↓reduceIte, Bool.false_eq_true, decide_true, Bool.or_self, Bool.false_eq_true, true_and, List.toList_toArray, List.cons_append, List.nil_append, code7, ty3, ty35, e1, pur0, fn31, ex31]
  refine CallK_of (clone_walk hb1 (by omega)) (fun v' H1 hR' => ?_) (fun ch H' h => by obtain ⟨_, h, _⟩ := h; cases h) (fun _ h => by obtain ⟨_, h, _⟩ := h; cases h)
  obtain ⟨v2, h, hk1, hv2⟩ := hR'
  cases h
  have hk11 := hk1.1
  simp only [AH.next_push] at hk11
  obtain ⟨va, vn, vc, hve⟩ : ∃ a n c, v' = .slice a n c := by rcases hv2 with ⟨rfl, _⟩ | ⟨b, c, rfl, _⟩ <;> exact ⟨_, _, _, rfl⟩
  have hb83 := b83 va vn vc
  rw [← hve] at hb83
  have hvo : v'.oneCell' = true := by rw [hve]; rfl
  simp (maxDischargeDepth := 40) only [Nat.reduceEqDiff, Nat.reduceLT, Nat.le_refl, WK_seq, WK_region, WLK_nil, WLK_cons, app_seq_normal, List.take_succ_cons, List.drop_succ_cons, List.head?_cons, isAggD, List.all_cons, List.all_nil, oc_int, oc_bool, oc_ptr, cells_ptr, cells_agg, Bool.and_self, aBox, aNew, aAlloc, aLoad, aStore, List.cons_append, List.take_zero, List.drop_zero, List.length_cons, List.length_nil, Nat.zero_add, AH.load, AH.store, splice, AH.get_push, AH.get_set, AH.next_push, Nat.succ_ne_self, want, dstOk, opR, opE, opC, ev, evs, evParts, put_n, put_tmps, put_none, put_defers, selfRel, opCallR, ↓bind_match, ↓map_match, ↓reduceIte, Bool.false_eq_true, decide_true, Bool.false_eq_true, true_and, and_true, List.toList_toArray, List.size_toArray, List.cons_append, List.nil_append, ty39, ty83, hvo, hb83, deferOf, hg, pur0]
  -- the reading begins
  have hcur : CurAt (((H1.push (.cells [v', .int .i64 0, .bool true] 83)).push (.cells [.pointer none] 39)).set (H1.next + 1) (some (.cells [ptr H1.next] 39))) H1.next ⟨l, 0, 0⟩ := by
    refine ⟨rfl, by simp only [AH.next_set, AH.next_push]; omega, v', l, ?_, by omega, Nat.zero_le _, rfl, ?_⟩
    · rw [AH.get_set_ne _ _ _ _ (by omega), AH.get_push_ne _ _ _ (by simp only [AH.next_push]; omega), AH.get_push_same]
      rfl
    · rcases hv2 with h | ⟨b, c, rfl, hb, hb2, hb3⟩
      · exact .inl h
      · simp only [AH.next_push] at hb2
        refine .inr ⟨b, 0, c, u8s l, rfl, by omega, ?_, by rw [List.drop_zero, ← u8s_length l, List.take_length], by rw [u8s_length]; omega, by simp only [AH.next_set, AH.next_push]; omega⟩
        rw [AH.get_set_ne _ _ _ _ (by omega), AH.get_push_ne _ _ _ (by simp only [AH.next_push]; omega), AH.get_push_ne _ _ _ (by omega)]
        exact hb
  have hkeep : Keep H0 (((H1.push (.cells [v', .int .i64 0, .bool true] 83)).push (.cells [.pointer none] 39)).set (H1.next + 1) (some (.cells [ptr H1.next] 39))) := by
    have h0 : Keep H0 H1 := (((Keep.refl H0).push _).push _).trans hk1
    exact ((h0.push _).push _).set _ _ (by omega)
  have hg4 : H1.get H0.next = some (.cells [.int .i64 0] 3) := by
    rw [hk1.2 _ (by simp only [AH.next_push]; omega), AH.get_push_ne _ _ _ (by simp only [AH.next_push]; omega)]
    exact AH.get_push_same _ _
  have hg5 : H1.get (H0.next + 1) = some (.cells [.int .i64 0] 35) := by
    rw [hk1.2 _ (by simp only [AH.next_push]; omega)]
    exact AH.get_push_same _ _
  refine CallK_of (hread _ _ hcur hkeep (by omega)) (fun w H2 hRd => ?_) (fun ch H2 hRd => ?_) (fun H2 hRd => ?_)
  rotate_left
  rotate_left
  · obtain ⟨e, r', h1, h2, h3, ⟨_, w', h⟩ | ⟨_, h⟩⟩ := hRd <;> cases h
  all_goals
    obtain ⟨e, r', h1, h2, h3, h4⟩ := hRd
    have h21 := h2.1
    simp only [AH.next_set, AH.next_push] at h21
    have q4 : H2.get H0.next = some (.cells [.int .i64 0] 3) := by
      rw [h2.2 _ (by simp only [AH.next_set, AH.next_push]; omega) (by omega), AH.get_set_ne _ _ _ _ (by omega), AH.get_push_ne _ _ _ (by simp only [AH.next_push]; omega), AH.get_push_ne _ _ _ (by omega)]
      exact hg4
    have q5 : H2.get (H0.next + 1) = some (.cells [.int .i64 0] 35) := by
      rw [h2.2 _ (by simp only [AH.next_set, AH.next_push]; omega) (by omega), AH.get_set_ne _ _ _ _ (by omega), AH.get_push_ne _ _ _ (by simp only [AH.next_push]; omega), AH.get_push_ne _ _ _ (by omega)]
      exact hg5
    have q6 : H2.get (H1.next + 1) = some (.cells [ptr H1.next] 39) := by
      rw [h2.2 _ (by simp only [AH.next_set, AH.next_push]; omega) (by omega)]
      exact AH.get_set_same _ _ _
    obtain ⟨_, _, w2, l2, qc, _⟩ := id h1
    have m_0_1 : ¬ H0.next = H0.next + 1 := by omega
    have m_0_2 : ¬ H0.next = H1.next := by omega
    have m_0_3 : ¬ H0.next = H1.next + 1 := by omega
    have m_0_4 : ¬ H0.next = H2.next := by omega
    have m_1_0 : ¬ H0.next + 1 = H0.next := by omega
    have m_1_2 : ¬ H0.next + 1 = H1.next := by omega
    have m_1_3 : ¬ H0.next + 1 = H1.next + 1 := by omega
    have m_1_4 : ¬ H0.next + 1 = H2.next := by omega
    have m_2_0 : ¬ H1.next = H0.next := by omega
    have m_2_1 : ¬ H1.next = H0.next + 1 := by omega
    have m_2_3 : ¬ H1.next = H1.next + 1 := by omega
    have m_2_4 : ¬ H1.next = H2.next := by omega
    have m_3_0 : ¬ H1.next + 1 = H0.next := by omega
    have m_3_1 : ¬ H1.next + 1 = H0.next + 1 := by omega
    have m_3_2 : ¬ H1.next + 1 = H1.next := by omega
    have m_3_4 : ¬ H1.next + 1 = H2.next := by omega
    have m_4_0 : ¬ H2.next = H0.next := by omega
    have m_4_1 : ¬ H2.next = H0.next + 1 := by omega
    have m_4_2 : ¬ H2.next = H1.next := by omega
    have m_4_3 : ¬ H2.next = H1.next + 1 := by omega
  · rcases h4 with ⟨rfl, w', h⟩ | ⟨_, h⟩
    rotate_left
    · cases h
    simp (maxDischargeDepth := 40) only [Nat.reduceEqDiff, Nat.reduceLT, Nat.reduceLeDiff, Nat.reduceAdd, Nat.le_refl, Nat.reduceLeDiff,  WK_ret, WK_seq, WK_region, WLK_nil, WLK_cons, app_fin, app_seq_normal, List.take_succ_cons, List.drop_succ_cons, List.head?_cons, isAggD, List.all_cons, List.all_nil, oc_int, cells_int, Bool.and_self, aFieldAddr, aLoad, aStore, List.cons_append, List.take_zero, List.drop_zero, List.length_cons, List.length_nil, Nat.zero_add, AH.load, AH.store, splice, AH.get_set, Nat.succ_ne_self, want, dstOk, opR, opE, ev, put_n, put_tmps, put_none, selfRel, ↓bind_match, ↓map_match, ↓reduceIte, Bool.false_eq_true, decide_true, Bool.false_eq_true, true_and, and_true, List.toList_toArray, List.size_toArray, List.getElem?_toArray, List.getElem?_cons_zero, List.getElem?_cons_succ, List.cons_append, List.nil_append, ty3, ty35, ty39, ty83, q4, q5, q6, qc, m_1_0]
    refine ABodyD_one (d := { target := .fn (.func 32) #[ptr (H1.next + 1), ptr H0.next, ptr (H0.next + 1)], args := #[] ++ #[] }) (by simp only [put_defers]) rfl fn32 rfl ?_
    refine run1_ret (tb := H1.next + 1) (cb := H1.next) (ab := H0.next) (eb := H0.next + 1) (pos := r'.pos) (v := w2) (x := .int .i64 r'.pos) (y := .int .i64 0) (lv := true) ?_ ?_ ?_ ?_ ?_
    · simp only [AH.get_set, m_3_0, m_3_1, if_false, q6]
    · simp only [AH.get_set, m_2_0, m_2_1, if_false, qc]
    · simp only [AH.get_set, m_0_1, if_false, if_true]
    · simp only [AH.get_set, m_1_0, if_false, if_true]
    · refine ⟨rfl, [.int .i64 r'.pos, .int .i64 0], ?_, hR 0 H2 _ r'.pos h3 ⟨?_, ?_, ?_⟩⟩
      · simp (maxDischargeDepth := 40) only [Nat.reduceEqDiff, Nat.le_refl, List.take_succ_cons, List.head?_cons, isAggD, aLoad, List.take_zero, List.drop_zero, List.length_cons, List.length_nil, Nat.zero_add, AH.load, AH.get_set, put_tmps, ↓bind_match, ↓reduceIte, Bool.false_eq_true, Bool.false_eq_true, aResults, aResult, rs7, ty3, ty35, m_1_0, m_1_2]
      · simp only [AH.next_set]; exact Nat.le_refl _
      · intro b hb
        have p_0_1 : ¬ b = H0.next := by omega
        have p_0_2 : ¬ b = H0.next + 1 := by omega
        have p_0_3 : ¬ b = H1.next := by omega
        have p_0_4 : ¬ b = H1.next + 1 := by omega
        have p_1_0 : ¬ H0.next = b := by omega
        have p_1_2 : ¬ H0.next = H0.next + 1 := by omega
        have p_1_3 : ¬ H0.next = H1.next := by omega
        have p_1_4 : ¬ H0.next = H1.next + 1 := by omega
        have p_2_0 : ¬ H0.next + 1 = b := by omega
        have p_2_1 : ¬ H0.next + 1 = H0.next := by omega
        have p_2_3 : ¬ H0.next + 1 = H1.next := by omega
        have p_2_4 : ¬ H0.next + 1 = H1.next + 1 := by omega
        have p_3_0 : ¬ H1.next = b := by omega
        have p_3_1 : ¬ H1.next = H0.next := by omega
        have p_3_2 : ¬ H1.next = H0.next + 1 := by omega
        have p_3_4 : ¬ H1.next = H1.next + 1 := by omega
        have p_4_0 : ¬ H1.next + 1 = b := by omega
        have p_4_1 : ¬ H1.next + 1 = H0.next := by omega
        have p_4_2 : ¬ H1.next + 1 = H0.next + 1 := by omega
        have p_4_3 : ¬ H1.next + 1 = H1.next := by omega
        simp only [AH.get_set, p_0_1, p_0_2, p_0_3, if_false]
      · intro b cs e hb hbc e1 e2 e3
        have c1 : ¬ b = H1.next := by rintro rfl; rw [qc] at hbc; cases hbc; exact e1 rfl
        have c2 : ¬ b = H0.next := by rintro rfl; rw [q4] at hbc; cases hbc; exact e2 rfl
        have c3 : ¬ b = H0.next + 1 := by rintro rfl; rw [q5] at hbc; cases hbc; exact e3 rfl
        simp only [AH.get_set, c1, c2, c3, if_false]
  · rcases h4 with ⟨_, w', h⟩ | ⟨hne, h⟩
    · cases h
    injection h with h
    subst h
    simp (maxDischargeDepth := 40) only [app_fin, app_seq_panic]
    refine ABodyD_one (d := { target := .fn (.func 32) #[ptr (H1.next + 1), ptr H0.next, ptr (H0.next + 1)], args := #[] ++ #[] }) (by simp only [put_defers]) rfl fn32 rfl ?_
    refine run1_fault (tb := H1.next + 1) (cb := H1.next) (ab := H0.next) (eb := H0.next + 1) (pos := r'.pos) (v := w2) (x := .int .i64 0) (y := .int .i64 0) (lv := true) q6 qc q4 q5 (by omega) (by omega) ?_
    refine ⟨rfl, [.int .i64 r'.pos, .int .i64 e], ?_, hR e H2 _ r'.pos h3 ⟨?_, ?_, ?_⟩⟩
    · simp (maxDischargeDepth := 40) only [Nat.reduceEqDiff, Nat.le_refl, List.take_succ_cons, List.head?_cons, isAggD, aLoad, List.take_zero, List.drop_zero, List.length_cons, List.length_nil, Nat.zero_add, AH.load, AH.get_push, AH.get_set, AH.next_set, put_tmps, ↓bind_match, ↓reduceIte, Bool.false_eq_true, Bool.false_eq_true, aResults, aResult, rs7, ty3, ty35, m_0_1, m_0_4]
    · simp only [AH.next_set, AH.next_push]; omega
    · intro b hb
      have p_0_1 : ¬ b = H0.next := by omega
      have p_0_2 : ¬ b = H0.next + 1 := by omega
      have p_0_3 : ¬ b = H1.next := by omega
      have p_0_4 : ¬ b = H1.next + 1 := by omega
      have p_0_5 : ¬ b = H2.next := by omega
      have p_1_0 : ¬ H0.next = b := by omega
      have p_1_2 : ¬ H0.next = H0.next + 1 := by omega
      have p_1_3 : ¬ H0.next = H1.next := by omega
      have p_1_4 : ¬ H0.next = H1.next + 1 := by omega
      have p_1_5 : ¬ H0.next = H2.next := by omega
      have p_2_0 : ¬ H0.next + 1 = b := by omega
      have p_2_1 : ¬ H0.next + 1 = H0.next := by omega
      have p_2_3 : ¬ H0.next + 1 = H1.next := by omega
      have p_2_4 : ¬ H0.next + 1 = H1.next + 1 := by omega
      have p_2_5 : ¬ H0.next + 1 = H2.next := by omega
      have p_3_0 : ¬ H1.next = b := by omega
      have p_3_1 : ¬ H1.next = H0.next := by omega
      have p_3_2 : ¬ H1.next = H0.next + 1 := by omega
      have p_3_4 : ¬ H1.next = H1.next + 1 := by omega
      have p_3_5 : ¬ H1.next = H2.next := by omega
      have p_4_0 : ¬ H1.next + 1 = b := by omega
      have p_4_1 : ¬ H1.next + 1 = H0.next := by omega
      have p_4_2 : ¬ H1.next + 1 = H0.next + 1 := by omega
      have p_4_3 : ¬ H1.next + 1 = H1.next := by omega
      have p_4_5 : ¬ H1.next + 1 = H2.next := by omega
      have p_5_0 : ¬ H2.next = b := by omega
      have p_5_1 : ¬ H2.next = H0.next := by omega
      have p_5_2 : ¬ H2.next = H0.next + 1 := by omega
      have p_5_3 : ¬ H2.next = H1.next := by omega
      have p_5_4 : ¬ H2.next = H1.next + 1 := by omega
      simp only [AH.get_set, AH.get_push, AH.next_set, p_0_1, p_0_2, p_0_3, p_0_5, if_false]
    · intro b cs e hb hbc e1 e2 e3
      have c1 : ¬ b = H1.next := by rintro rfl; rw [qc] at hbc; cases hbc; exact e1 rfl
      have c2 : ¬ b = H0.next := by rintro rfl; rw [q4] at hbc; cases hbc; exact e2 rfl
      have c3 : ¬ b = H0.next + 1 := by rintro rfl; rw [q5] at hbc; cases hbc; exact e3 rfl
      have c4 : ¬ b = H2.next := by omega
      simp only [AH.get_set, AH.get_push, AH.next_set, c1, c2, c3, c4, if_false]

end Go.Am.Q

/- The statement's readings. -/
set_option linter.unusedSimpArgs false
set_option linter.unusedSectionVars false
set_option maxRecDepth 20000
namespace Go.Am.Q
open Go Go.Am Go.Proofs
variable [F : Fr]

/-- What a reading of notes leaves behind. -/
def RdN (H0 : AH) (bk : Nat) (q : RdV × List NoteV) (ee : Nat) (e : Nat) (H2 : AH) : Prop :=
  e = ee ∧ (q.1.e = 0 → ∃ v, H2.get bk = some (.cells [v] 22) ∧ OwnE 32 H0.next H2 v q.2) ∧ H0.next ≤ H2.next ∧ ∀ b, b < H0.next → b ≠ bk → H2.get b = H0.get b

theorem clo14 {H0 : AH} {bk : Nat} {v0 : Value} {l : List UInt8} (hb : H0.get bk = some (.cells [v0] 22)) (hbl : bk < H0.next) (hl : l.length ≤ 900000) : ∀ cb H1, CurAt H1 cb ⟨l, 0, 0⟩ → Keep H0 H1 → H0.next ≤ cb →
    ACalls P 14 (ptr cb :: [ptr bk]) H1 (ReadR H0 cb (RdN H0 bk (getNR ⟨l, 0, 0⟩) (getNR ⟨l, 0, 0⟩).1.e) H1) := by
  intro cb H1 hcur hk hcb
  refine ACalls_K E (fnOf_ok P) mixed pur0_ok fn14 ok14 sx14 (by simp [nt14]) ?_
  simp only [nt14]
  have hr : (⟨l, 0, 0⟩ : RdV).Ok := ⟨by simp only; omega, Nat.zero_le _⟩
  have hk1 := hk.1
  have hb1 : H1.get bk = some (.cells [v0] 22) := by rw [hk.2 bk hbl]; exact hb
  have hcall := nget_walk hcur hr
  generalize getNR ⟨l, 0, 0⟩ = q at hcall
  simp (maxDischargeDepth := 40) only [Nat.reduceLT, WK_region, WLK_cons, List.cons_append, Nat.zero_add, want, dstOk, opR, opE, opC, ev, evs, entry, argT, put_n, put_tmps, opCallR, ↓bind_match, ↓reduceIte, decide_true, true_and, List.cons_append, List.nil_append, code14, pur0, fn10, ex10]
  refine CallK_of hcall (fun w H2 hR => ?_) (fun ch H2 hR => ?_) (fun H2 hR => ?_)
  · obtain ⟨h1, h2⟩ := hR
    by_cases he : q.1.e = 0
    · rw [if_pos he] at h2
      obtain ⟨v, h3, h4, h5⟩ := h2
      cases h3
      have h11 := h1.1
      have hb2 : H2.get bk = some (.cells [v0] 22) := by rw [h1.2 bk (by omega) (by omega)]; exact hb1
      have hwo : w.oneCell' = true ∧ w.cells = #[w] := by rcases h4 with ⟨rfl, _⟩ | ⟨b, rfl, _⟩ <;> exact ⟨rfl, rfl⟩
      simp (maxDischargeDepth := 40) only [Nat.reduceEqDiff, Nat.le_refl, WLK_nil, WLK_cons, app_fin, List.drop_succ_cons, List.all_cons, List.all_nil, Bool.and_self, aStore, List.cons_append, List.take_zero, List.drop_zero, List.length_cons, List.length_nil, Nat.zero_add, Option.some.injEq, exists_eq_left', AH.store, splice, Nat.succ_ne_self, want, dstOk, opR, opE, ev, put_tmps, put_none, put_defers, ↓bind_match, ↓map_match, ↓reduceIte, true_and, and_true, List.toList_toArray, List.size_toArray, List.cons_append, List.nil_append, ABody, aResults, tupleOf, rs14, ty22, hb2, hwo.1, hwo.2]
      refine ⟨0, q.1, h5.set hb2 (by decide) (by decide) _, ?_, ⟨he.symm, ?_, ?_, ?_⟩, .inl ⟨rfl, _, rfl⟩⟩
      · exact (h1.weak fun b _ h => .inl h).set (.inl (.inr hbl)) _
      · intro _
        refine ⟨w, AH.get_set_same _ _ _, ?_⟩
        rcases h4 with h | ⟨b, hv, hb1', hb2', hb3⟩
        · exact .inl h
        · exact .inr ⟨b, hv, by omega, hb2', by rw [AH.get_set_ne _ _ _ _ (by omega)]; exact hb3⟩
      · simp only [AH.next_set]; omega
      · intro b hb' hne
        rw [AH.get_set_ne _ _ _ _ hne, h1.2 b (by omega) (by omega), hk.2 b hb']
    · rw [if_neg he] at h2; cases h2.1
  · obtain ⟨h1, h2⟩ := hR
    by_cases he : q.1.e = 0
    · rw [if_pos he] at h2; obtain ⟨v, h3, _⟩ := h2; cases h3
    · rw [if_neg he] at h2
      obtain ⟨h3, r', h4⟩ := h2
      cases h3
      have h11 := h1.1
      simp (maxDischargeDepth := 40) only [app_fin, put_defers, true_and, ABody]
      refine ⟨q.1.e, r', h4, h1.weak fun b _ h => .inl h, ⟨rfl, fun h => absurd h he, by omega, ?_⟩, .inr ⟨he, rfl⟩⟩
      intro b hb' hne
      rw [h1.2 b (by omega) (by omega), hk.2 b hb']
  · obtain ⟨h1, h2⟩ := hR
    by_cases he : q.1.e = 0
    · rw [if_pos he] at h2; obtain ⟨v, h3, _⟩ := h2; cases h3
    · rw [if_neg he] at h2; cases h2.1

/-- How a reading ends that asks for the end. -/
def endE (q : RdV × List NoteV) : Nat := if q.1.e = 0 then (endR q.1).1.e else q.1.e

theorem clo9 {H0 : AH} {bk : Nat} {v0 : Value} {l : List UInt8} (hb : H0.get bk = some (.cells [v0] 22)) (hbl : bk < H0.next) (hl : l.length ≤ 900000) : ∀ cb H1, CurAt H1 cb ⟨l, 0, 0⟩ → Keep H0 H1 → H0.next ≤ cb →
    ACalls P 9 (ptr cb :: [ptr bk]) H1 (ReadR H0 cb (RdN H0 bk (getNR ⟨l, 0, 0⟩) (endE (getNR ⟨l, 0, 0⟩))) H1) := by
  intro cb H1 hcur hk hcb
  refine ACalls_K E (fnOf_ok P) mixed pur0_ok fn9 ok9 sx9 (by simp [nt9]) ?_
  simp only [nt9]
  have hr : (⟨l, 0, 0⟩ : RdV).Ok := ⟨by simp only; omega, Nat.zero_le _⟩
  have hk1 := hk.1
  have hb1 : H1.get bk = some (.cells [v0] 22) := by rw [hk.2 bk hbl]; exact hb
  have hcall := nget_walk hcur hr
  generalize getNR ⟨l, 0, 0⟩ = q at hcall
  unfold endE
  simp (maxDischargeDepth := 40) only [Nat.reduceLT, WK_seq, WK_region, WLK_cons, List.cons_append, Nat.zero_add, want, dstOk, opR, opE, opC, ev, evs, entry, argT, put_n, put_tmps, opCallR, ↓bind_match, ↓reduceIte, decide_true, true_and, List.cons_append, List.nil_append, code9, pur0, fn10, ex10]
  refine CallK_of hcall (fun w H2 hR => ?_) (fun ch H2 hR => ?_) (fun H2 hR => ?_)
  · obtain ⟨h1, h2⟩ := hR
    by_cases he : q.1.e = 0
    · rw [if_pos he] at h2
      rw [if_pos he]
      obtain ⟨v, h3, h4, h5⟩ := h2
      cases h3
      have h11 := h1.1
      have hb2 : H2.get bk = some (.cells [v0] 22) := by rw [h1.2 bk (by omega) (by omega)]; exact hb1
      have hwo : w.oneCell' = true ∧ w.cells = #[w] := by rcases h4 with ⟨rfl, _⟩ | ⟨b, rfl, _⟩ <;> exact ⟨rfl, rfl⟩
      have hc2 := h5.set hb2 (by decide) (by decide) (some (.cells [w] 22))
      have own2 : OwnE 32 H0.next (H2.set bk (some (.cells [w] 22))) w q.2 := by
        rcases h4 with h | ⟨b, hv, hb1', hb2', hb3⟩
        · exact .inl h
        · exact .inr ⟨b, hv, by omega, hb2', by rw [AH.get_set_ne _ _ _ _ (by omega)]; exact hb3⟩
      have keep2 : ∀ b, b < H0.next → b ≠ bk → (H2.set bk (some (.cells [w] 22))).get b = H0.get b := by
        intro b hb' hne
        rw [AH.get_set_ne _ _ _ _ hne, h1.2 b (by omega) (by omega), hk.2 b hb']
      have kif : KeepIf (fun b => b = cb ∨ b < H0.next) H1 (H2.set bk (some (.cells [w] 22))) := (h1.weak fun b _ h => .inl h).set (.inl (.inr hbl)) _
      simp (maxDischargeDepth := 40) only [Nat.reduceEqDiff, Nat.reduceLT, reduceCtorEq, Nat.le_refl, WK_region, WLK_nil, WLK_cons, app_seq_normal, List.drop_succ_cons, List.all_cons, List.all_nil, Bool.and_self, aStore, List.cons_append, List.take_zero, List.drop_zero, List.length_cons, List.length_nil, Nat.zero_add, AH.store, splice, Nat.succ_ne_self, want, dstOk, opR, opE, opC, ev, evs, put_n, put_tmps, put_none, opCallR, ↓bind_match, ↓map_match, ↓reduceIte, decide_true, true_and, and_true, List.toList_toArray, List.size_toArray, List.cons_append, List.nil_append, ty22, hb2, hwo.1, hwo.2, pur0, fn11, ex11]
      refine CallK_cur (end_walk hc2) (fun he2 H3 hk3 hc3 => ?_) (fun he2 H3 r3 hk3 hc3 => ?_)
      all_goals
        have h31 := hk3.1
        simp only [AH.next_set] at h31
        have rd : RdN H0 bk q (endR q.1).1.e (endR q.1).1.e H3 := by
          refine ⟨rfl, fun _ => ⟨w, ?_, ?_⟩, by omega, fun b hb' hne => ?_⟩
          · rw [hk3.2 bk (by simp only [AH.next_set]; omega) (by omega)]
            exact AH.get_set_same _ _ _
          · rcases own2 with h | ⟨b, hv, hb1', hb2', hb3⟩
            · exact .inl h
            · refine .inr ⟨b, hv, hb1', by simp only [AH.next_set] at hb2'; omega, ?_⟩
              rw [hk3.2 b hb2' (hc2.ne hb3 (by decide))]
              exact hb3
          · rw [hk3.2 b (by simp only [AH.next_set]; omega) (by omega)]
            exact keep2 b hb' hne
        have kif3 : KeepIf (fun b => b = cb ∨ b < H0.next) H1 H3 := kif.trans (hk3.weak fun b _ h => .inl h)
      · simp (maxDischargeDepth := 40) only [WLK_nil, app_fin, Option.some.injEq, exists_eq_left', put_defers, true_and, ABody, aResults, tupleOf, rs9]
        exact ⟨(endR q.1).1.e, _, hc3, kif3, rd, .inl ⟨he2, _, rfl⟩⟩
      · simp (maxDischargeDepth := 40) only [app_fin, put_defers, true_and, ABody]
        exact ⟨(endR q.1).1.e, _, hc3, kif3, rd, .inr ⟨he2, rfl⟩⟩
    · rw [if_neg he] at h2; cases h2.1
  · obtain ⟨h1, h2⟩ := hR
    by_cases he : q.1.e = 0
    · rw [if_pos he] at h2; obtain ⟨v, h3, _⟩ := h2; cases h3
    · rw [if_neg he] at h2
      rw [if_neg he]
      obtain ⟨h3, r', h4⟩ := h2
      cases h3
      have h11 := h1.1
      simp (maxDischargeDepth := 40) only [app_fin, app_seq_panic, put_defers, true_and, ABody]
      refine ⟨q.1.e, r', h4, h1.weak fun b _ h => .inl h, ⟨rfl, fun h => absurd h he, by omega, ?_⟩, .inr ⟨he, rfl⟩⟩
      intro b hb' hne
      rw [h1.2 b (by omega) (by omega), hk.2 b hb']
  · obtain ⟨h1, h2⟩ := hR
    by_cases he : q.1.e = 0
    · rw [if_pos he] at h2; obtain ⟨v, h3, _⟩ := h2; cases h3
    · rw [if_neg he] at h2; cases h2.1

end Go.Am.Q

/- Notes that are written are got again: the plain law. -/
set_option linter.unusedSimpArgs false
set_option linter.unusedSectionVars false
set_option maxRecDepth 20000
namespace Go.Am.Q
open Go Go.Am Go.Proofs
variable [F : Fr]

theorem takeR_app {a b : List UInt8} {pos n : Nat} (h : a.length = n) (hn : 0 < n) : takeR ⟨a ++ b, pos, 0⟩ n = (⟨b, pos + n, 0⟩, a) := by
  unfold takeR
  rw [if_neg (by simp only; omega), if_neg (by simp only [List.length_append]; omega)]
  subst h
  simp

theorem getR_app {a b : List UInt8} {pos n : Nat} (h : a.length = n) (hn : 0 < n) : getR ⟨a ++ b, pos, 0⟩ n = (⟨b, pos + n, 0⟩, leB a) := by
  unfold getR
  rw [takeR_app h hn]

theorem getR_one {c : UInt8} {b : List UInt8} {pos : Nat} : getR ⟨c :: b, pos, 0⟩ 1 = (⟨b, pos + 1, 0⟩, c.toNat) := by
  have := getR_app (a := [c]) (b := b) (pos := pos) (n := 1) rfl (by decide)
  simpa [leB] using this

theorem varL_num : ∀ (k i x y pos : Nat) (rest : List UInt8), i + k = 10 → 0 < k → y < 128 ^ k → (0 < i → 0 < y) → x + y * 128 ^ i < 18446744073709551616 →
    ∃ p, varL k i x ⟨numB k y ++ rest, pos, 0⟩ = (⟨rest, p, 0⟩, x + y * 128 ^ i) := by
  intro k
  induction k with
  | zero => intro i x y pos rest _ h; omega
  | succ k ih =>
    intro i x y pos rest hik _ hy hi0 hx
    have hpos : 0 < 128 ^ i := Nat.pow_pos (by decide)
    by_cases hc : y < 128
    · have hn : numB (k + 1) y = [UInt8.ofNat y] := by simp [numB, hc]
      have hb : (UInt8.ofNat y).toNat = y := by simp; omega
      rw [hn, varL, List.singleton_append, getR_one]
      simp only [hb]
      have h9 : ¬ (i = 9 ∧ 1 < y) := by
        rintro ⟨rfl, h1⟩
        have e9 : (128 : Nat) ^ 9 = 9223372036854775808 := by decide
        rw [e9] at hx
        omega
      rw [if_neg (by simp), if_neg h9, if_neg (by omega), if_neg (by omega)]
      rw [Nat.mod_eq_of_lt hc]
      exact ⟨_, rfl⟩
    · have hn : numB (k + 1) y = UInt8.ofNat (128 + y % 128) :: numB k (y / 128) := by simp [numB, hc]
      have hm : y % 128 < 128 := Nat.mod_lt _ (by decide)
      have hb : (UInt8.ofNat (128 + y % 128)).toNat = 128 + y % 128 := by simp; omega
      have hk0 : 0 < k := by
        rcases Nat.eq_zero_or_pos k with rfl | h
        · simp at hy; omega
        · exact h
      have h4 : 128 ^ (i + 1) = 128 * 128 ^ i := by rw [Nat.pow_succ, Nat.mul_comm]
      have hsum : x + y % 128 * 128 ^ i + y / 128 * 128 ^ (i + 1) = x + y * 128 ^ i := by
        have hd : y = 128 * (y / 128) + y % 128 := (Nat.div_add_mod y 128).symm
        have : y * 128 ^ i = (128 * (y / 128) + y % 128) * 128 ^ i := by rw [← hd]
        rw [this, h4, Nat.add_mul]
        have e1 : y / 128 * (128 * 128 ^ i) = 128 * (y / 128) * 128 ^ i := by rw [← Nat.mul_assoc, Nat.mul_comm (y / 128)]
        omega
      rw [hn, varL, List.cons_append, getR_one]
      simp only [hb]
      have h9 : ¬ (i = 9 ∧ 1 < 128 + y % 128) := by
        rintro ⟨rfl, h1⟩
        have : k = 0 := by omega
        omega
      have e2 : (128 + y % 128) % 128 = y % 128 := by omega
      rw [if_neg (by simp), if_neg h9, if_pos (by omega), e2]
      obtain ⟨p, hp⟩ := ih (i + 1) (x + y % 128 * 128 ^ i) (y / 128) (pos + 1) rest (by omega) hk0 (by rw [Nat.pow_succ] at hy; omega) (by omega) (by omega)
      exact ⟨p, by rw [hp, hsum]⟩

theorem varR_num {x pos : Nat} {rest : List UInt8} (hx : x < 18446744073709551616) : ∃ p, varR ⟨num x ++ rest, pos, 0⟩ = (⟨rest, p, 0⟩, x) := by
  obtain ⟨p, hp⟩ := varL_num 10 0 0 x pos rest rfl (by decide) (by omega) (by omega) (by simpa using hx)
  refine ⟨p, ?_⟩
  unfold varR num
  rw [hp]
  simp

theorem numberR_num {x m pos : Nat} {rest : List UInt8} (hx : x ≤ m) (hm : m < 18446744073709551616) : ∃ p, numberR ⟨num x ++ rest, pos, 0⟩ m = (⟨rest, p, 0⟩, x) := by
  obtain ⟨p, hp⟩ := varR_num (x := x) (pos := pos) (rest := rest) (by omega)
  refine ⟨p, ?_⟩
  unfold numberR
  rw [hp, if_neg (by simp only; omega)]

theorem numsP_succ' (j : Nat) (r : RdV) : numsP (j + 1) r = ((numberR (numsP j r).1 most40).1, (numsP j r).2 ++ [(numberR (numsP j r).1 most40).2]) := rfl

theorem numsP_num : ∀ (l : List Nat) (pos : Nat) (rest : List UInt8), (∀ x ∈ l, x ≤ most40) → ∃ p, numsP l.length ⟨l.flatMap num ++ rest, pos, 0⟩ = (⟨rest, p, 0⟩, l) := by
  have key : ∀ (n : Nat) (l : List Nat), l.length = n → ∀ (pos : Nat) (rest : List UInt8), (∀ x ∈ l, x ≤ most40) → ∃ p, numsP n ⟨l.flatMap num ++ rest, pos, 0⟩ = (⟨rest, p, 0⟩, l) := by
    intro n
    induction n with
    | zero =>
      intro l hl pos rest _
      have : l = [] := List.length_eq_zero_iff.1 hl
      subst this
      exact ⟨pos, rfl⟩
    | succ n ih =>
      intro l hl pos rest h
      obtain ⟨l', x, rfl⟩ : ∃ l' x, l = l' ++ [x] := by
        have hne : l ≠ [] := by intro h; rw [h] at hl; cases hl
        exact ⟨l.dropLast, l.getLast hne, (List.dropLast_concat_getLast hne).symm⟩
      have hl' : l'.length = n := by simpa using hl
      obtain ⟨p, hp⟩ := ih l' hl' pos (num x ++ rest) (fun y hy => h y (by simp [hy]))
      obtain ⟨p2, hp2⟩ := numberR_num (x := x) (m := most40) (pos := p) (rest := rest) (h x (by simp)) (by decide)
      refine ⟨p2, ?_⟩
      have e : (l' ++ [x]).flatMap num ++ rest = l'.flatMap num ++ (num x ++ rest) := by simp
      rw [e, numsP_succ', hp, hp2]
  intro l pos rest h
  exact key _ l rfl pos rest h

theorem leB_leL : ∀ (k x : Nat), x < 256 ^ k → leB (leL k x) = x := by
  intro k
  induction k with
  | zero => intro x h; simp [leL, leB] at h ⊢; omega
  | succ k ih =>
    intro x h
    rw [leL_snoc, leB_snoc, leL_length]
    have h1 : x % 256 ^ k < 256 ^ k := Nat.mod_lt _ (Nat.pow_pos (by decide))
    have h2 : x / 256 ^ k < 256 := by
      rw [Nat.pow_succ] at h
      exact Nat.div_lt_of_lt_mul h
    have h3 : (UInt8.ofNat (x / 256 ^ k)).toNat = x / 256 ^ k := by simp; omega
    have h4 : ∀ j y, leL j (y % 256 ^ j) = leL j y := by
      intro j
      induction j with
      | zero => intro y; rfl
      | succ j ihj =>
        intro y
        rw [leL_snoc, leL_snoc]
        have e1 : leL j (y % 256 ^ (j + 1)) = leL j y := by
          rw [← ihj (y % 256 ^ (j + 1)), ← ihj y, Nat.mod_mod_of_dvd _ (Nat.pow_dvd_pow 256 (Nat.le_succ j))]
        have e2 : y % 256 ^ (j + 1) / 256 ^ j = y / 256 ^ j % 256 := by
          rw [Nat.pow_succ, Nat.mod_mul_right_div_self]
        rw [e1, e2]
        congr 2
        apply UInt8.toNat_inj.1
        simp
    rw [h3, ← h4 k x, ih _ h1]
    have := Nat.mod_add_div x (256 ^ k)
    rw [Nat.mul_comm (x / 256 ^ k)]
    omega

/-- May a note's numbers be? -/
def NoteV.May (n : NoteV) : Prop := n.number ≤ most40 ∧ ∀ y ∈ n.nums, 0 ≤ y ∧ y ≤ (most40 : Int)

theorem noteR_text {n : NoteV} (h : n.May) (pos : Nat) (rest : List UInt8) : ∃ p, noteR ⟨n.text ++ rest, pos, 0⟩ = (⟨rest, p, 0⟩, n) := by
  obtain ⟨hn, hy⟩ := h
  have hnums : (n.nums.map Int.toNat).flatMap num = n.nums.flatMap fun x => num x.toNat := by
    rw [List.flatMap_map]
  obtain ⟨p1, h1⟩ := numberR_num (x := n.number) (m := most40) (pos := pos) (rest := (n.nums.map Int.toNat).flatMap num ++ ([if n.whole then 1 else 0] ++ (leL 8 n.health ++ rest))) hn (by decide)
  obtain ⟨p2, h2⟩ := numsP_num (n.nums.map Int.toNat) p1 ([if n.whole then 1 else 0] ++ (leL 8 n.health ++ rest)) (by
    intro x hx
    rw [List.mem_map] at hx
    obtain ⟨y, hy1, rfl⟩ := hx
    have := hy y hy1
    omega)
  have h6 : (n.nums.map Int.toNat).length = 6 := rfl
  rw [h6] at h2
  have ht : n.text ++ rest = num n.number ++ ((n.nums.map Int.toNat).flatMap num ++ ([if n.whole then 1 else 0] ++ (leL 8 n.health ++ rest))) := by
    rw [hnums]
    unfold NoteV.text
    simp only [List.append_assoc]
  rw [ht]
  have e1 : (noteR ⟨num n.number ++ ((n.nums.map Int.toNat).flatMap num ++ ([if n.whole then 1 else 0] ++ (leL 8 n.health ++ rest))), pos, 0⟩).2 = n := by
    rw [noteR_2, h1, h2]
    simp only [List.singleton_append]
    rw [getR_one]
    have hh : ∀ i, ((n.nums.map Int.toNat).getD i 0 : Nat) = (n.nums.getD i 0).toNat := by
      intro i
      simp only [List.getD_eq_getElem?_getD, List.getElem?_map]
      cases n.nums[i]? <;> rfl
    have hz : ∀ y ∈ n.nums, ((y.toNat : Nat) : Int) = y := fun y hy' => Int.toNat_of_nonneg (hy y hy').1
    obtain ⟨number, bytes, erased, chunks, empty, found, good, whole⟩ := n
    simp only [NoteV.nums, List.mem_cons, List.not_mem_nil, or_false, forall_eq_or_imp, forall_eq] at hz
    obtain ⟨z1, z2, z3, z4, z5, z6⟩ := hz
    simp only [noteOf, NoteV.nums, List.map_cons, List.map_nil, List.getD_cons_zero, List.getD_cons_succ, z1, z2, z3, z4, z5, z6]
    cases whole <;> rfl
  have e2 : ∃ p, (noteR ⟨num n.number ++ ((n.nums.map Int.toNat).flatMap num ++ ([if n.whole then 1 else 0] ++ (leL 8 n.health ++ rest))), pos, 0⟩).1 = ⟨rest, p, 0⟩ := by
    rw [noteR_1, e1, h1, h2]
    have hw : wholeR ⟨[if n.whole then 1 else 0] ++ (leL 8 n.health ++ rest), p2, 0⟩ = ⟨leL 8 n.health ++ rest, p2 + 1, 0⟩ := by
      unfold wholeR
      simp only [List.singleton_append]
      rw [getR_one]
      have : ¬ (1 < (if n.whole = true then (1 : UInt8) else 0).toNat) := by cases n.whole <;> decide
      rw [if_neg (fun h => this h.2)]
    simp only [hw]
    have hhl := n.health_le
    have h8 : getR ⟨leL 8 n.health ++ rest, p2 + 1, 0⟩ 8 = (⟨rest, p2 + 1 + 8, 0⟩, n.health) := by
      rw [getR_app (leL_length 8 _) (by decide), leB_leL _ _ (by simp only [fOne] at hhl; omega)]
    have hf : fltR ⟨leL 8 n.health ++ rest, p2 + 1, 0⟩ = (⟨rest, p2 + 1 + 8, 0⟩, n.health) := by
      unfold fltR
      rw [h8, if_pos rfl, if_pos n.health_text]
    unfold lastR
    rw [hf, if_neg (fun h => h.2 n.health_text)]
    exact ⟨_, rfl⟩
  obtain ⟨p, e2⟩ := e2
  exact ⟨p, Prod.ext e2 e1⟩

theorem notesR_text : ∀ (ns acc : List NoteV) (pos : Nat), (∀ n ∈ ns, n.May) → ∃ p, notesR ns.length ⟨ns.flatMap NoteV.text, pos, 0⟩ acc = (⟨[], p, 0⟩, acc ++ ns) := by
  intro ns
  induction ns with
  | nil => intro acc pos _; exact ⟨pos, by simp [notesR]⟩
  | cons n ns ih =>
    intro acc pos h
    obtain ⟨p, hp⟩ := noteR_text (h n (by simp)) pos (ns.flatMap NoteV.text)
    obtain ⟨p2, hp2⟩ := ih (acc ++ [n]) p (fun m hm => h m (by simp [hm]))
    refine ⟨p2, ?_⟩
    rw [List.length_cons, notesR, List.flatMap_cons, hp]
    rw [if_neg (by simp), hp2]
    simp

theorem getNR_text {ns : List NoteV} (h : ∀ n ∈ ns, n.May) (hl : ns.length ≤ 65536) : ∃ p, getNR ⟨notesText ns, 0, 0⟩ = (⟨[], p, 0⟩, ns) := by
  obtain ⟨p1, h1⟩ := numberR_num (x := ns.length) (m := 65536) (pos := 0) (rest := ns.flatMap NoteV.text) hl (by decide)
  obtain ⟨p2, h2⟩ := notesR_text ns [] p1 h
  refine ⟨p2, ?_⟩
  unfold getNR notesText
  rw [h1, h2]
  rfl

theorem endE_text {ns : List NoteV} (h : ∀ n ∈ ns, n.May) (hl : ns.length ≤ 65536) : endE (getNR ⟨notesText ns, 0, 0⟩) = 0 ∧ (getNR ⟨notesText ns, 0, 0⟩).1.e = 0 ∧ (getNR ⟨notesText ns, 0, 0⟩).2 = ns := by
  obtain ⟨p, hp⟩ := getNR_text h hl
  rw [hp]
  exact ⟨rfl, rfl, rfl⟩

end Go.Am.Q

/- The statement: are notes the same; both readings. -/
set_option linter.unusedSimpArgs false
set_option linter.unusedSectionVars false
set_option maxRecDepth 20000
namespace Go.Am.Q
open Go Go.Am Go.Proofs
variable [F : Fr]

theorem eqOk33 : E.eqOk 33 = true := by kernel_rfl

theorem eq_note (n : NoteV) : aBin E.ty E.eqOk .neq 33 (.agg n.cells.toArray) (.agg n.cells.toArray) = some (.bool false) := by
  have e30 : ∀ x : Int, aEq E.ty E.eqOk 9999 30 (.int .u64 x) (.int .u64 x) = some true := by
    intro x
    show aEq E.ty E.eqOk (9998 + 1) 30 (.int .u64 x) (.int .u64 x) = some true
    unfold aEq
    simp [ty30]
  have e3 : ∀ x : Int, aEq E.ty E.eqOk 9999 3 (.int .i64 x) (.int .i64 x) = some true := by
    intro x
    show aEq E.ty E.eqOk (9998 + 1) 3 (.int .i64 x) (.int .i64 x) = some true
    unfold aEq
    simp [ty3]
  have e4 : ∀ x : Bool, aEq E.ty E.eqOk 9999 4 (.bool x) (.bool x) = some true := by
    intro x
    show aEq E.ty E.eqOk (9998 + 1) 4 (.bool x) (.bool x) = some true
    unfold aEq
    simp [ty4]
  have : aEq E.ty E.eqOk (9998 + 2) 33 (.agg n.cells.toArray) (.agg n.cells.toArray) = some true := by
    unfold aEq
    simp [ty33, eqOk33, aEqs, aPart, ty30, ty3, ty4, NoteV.cells, isAggD, e30, e3, e4]
  show (aEq E.ty E.eqOk (9998 + 2) 33 (.agg n.cells.toArray) (.agg n.cells.toArray)).map (fun b => Value.bool !b) = _
  rw [this]; rfl

/-- Notes that are the same. -/
theorem same_h {H : AH} {v v' : Value} {ns : List NoteV} (hv : NotesAt H 32 v ns) (hv' : NotesAt H 33 v' ns) (hl : ns.length ≤ 100000) : HPure P 13 [v, v'] H (.bool true) := by
  refine HPure_of rfl ?_
  refine ACalls_K E (fnOf_ok P) mixed pur0_ok fn13 ok13 sx13 (by simp [nt13]) ?_
  simp only [nt13]
  obtain ⟨va, vc, hve⟩ := hv.len
  obtain ⟨va', vc', hve'⟩ := hv'.len
  subst hve hve'
  have e22 : ∀ H, aLen E.ty H 22 (.slice va ns.length vc) = some (.int .i64 ns.length) := fun H => aLen_slice ty22 rfl _ _ _
  have e29 : ∀ H, aLen E.ty H 29 (.slice va' ns.length vc') = some (.int .i64 ns.length) := fun H => aLen_slice ty29 rfl _ _ _
  have d0 : ((ns.length : Int) != (ns.length : Int)) = false := by simp
  simp (maxDischargeDepth := 40) only [Nat.reduceEqDiff, Nat.reduceLT, reduceCtorEq, WK_skip, WK_seq, WK_cond, WK_block, WK_loop, WK_region, WLK_nil, WLK_cons, app_seq_normal, ne_eq, not_true_eq_false, Nat.zero_add, Nat.succ_ne_self, want, dstOk, opR, ev, evs, entry, argT, put_n, put_tmps, selfRel, aNilNil, nilC_tmp, opCallR, ↓bind_match, ↓reduceIte, Bool.false_eq_true, decide_true, Bool.or_self, Bool.false_eq_true, true_and, code13, aBin_int, intBin, e22, e29, d0]
  refine ⟨fun m a H' => H' = H ∧ ∃ i, i + m = ns.length ∧ a.n = 26 ∧ a.defers = [] ∧ a.tmps 0 = some (.slice va ns.length vc) ∧ a.tmps 1 = some (.slice va' ns.length vc') ∧ a.tmps 12 = some (.int .i64 ns.length) ∧
    a.tmps 13 = some (.int .i64 i), ns.length, ?_, ?_⟩
  · refine ⟨rfl, 0, by omega, ?_⟩
    simp (maxDischargeDepth := 40) only [Nat.reduceEqDiff, reduceCtorEq, Option.some.injEq, Nat.succ_ne_self, put_n, put_tmps, put_defers, ↓reduceIte, true_and]
    rfl
  · rintro m a H' ⟨rfl, i, him, hn, hd, t0, t1, t12, t13⟩
    by_cases hi : i < ns.length
    · have d1 : decide ((i : Int) < (ns.length : Int)) = true := by simp; omega
      rcases hv with ⟨_, hnil⟩ | ⟨b, cap, hsl, hB, hb⟩
      · rw [hnil] at hi; simp at hi
      rcases hv' with ⟨_, hnil⟩ | ⟨b', cap', hsl', hB', hb'⟩
      · rw [hnil] at hi; simp at hi
      cases hsl
      cases hsl'
      obtain ⟨x, hx⟩ : ∃ x, ns[i]? = some x := ⟨ns[i], by simp [hi]⟩
      obtain ⟨r1, r2⟩ := take_row NoteV.cells 8 NoteV.cells_length hx
      have e2 : aIndexAddr E.ty 22 (.slice (some ⟨b, 0, none⟩) ns.length vc) (.int .i64 (i : Int)) = some (.pointer (some ⟨b, i * 8, none⟩)) := by
        rw [aIndexAddr_slice ty22 rfl ty32 hi]; simp
      have e3 : aIndexAddr E.ty 29 (.slice (some ⟨b', 0, none⟩) ns.length vc') (.int .i64 (i : Int)) = some (.pointer (some ⟨b', i * 8, none⟩)) := by
        rw [aIndexAddr_slice ty29 rfl ty33 hi]; simp
      have f3 : IntKind.i64.wrap ((i : Int) + 1) = ((i + 1 : Nat) : Int) := by rw [wrap_i64 (by omega) (by omega)]; simp
      have e4 := eq_note x
      have hcells : x.cells.toArray.size = 8 := rfl
      simp (maxDischargeDepth := 40) only [Nat.reduceEqDiff, Nat.reduceLT, reduceCtorEq, WK_skip, WK_seq, WK_cond, WK_block, WK_region, WK_draw, WLK_nil, WLK_cons, WPK_cons, app_seq_normal, app_block_normal, app_inv_normal, WChks, WChk, evNewA, opRP, ne_eq, not_true_eq_false, isAggD, aLoad, List.cons_append, Option.some.injEq, AH.load, want, dstOk, opR, ev, put_n, put_tmps, put_defers, selfRel, aNilNil, nilC_tmp, nilC_int, ↓bind_match, ↓map_match, ↓reduceIte, Bool.false_eq_true, decide_true, Bool.or_self, Bool.false_eq_true, true_and, and_true, List.getElem?_toArray, List.getElem?_cons_zero, List.getElem?_cons_succ, List.cons_append, List.nil_append, body13_0, pl13_6, aBin_int, intBin, ty32, ty33, hn, hd, t0, t1, t12, t13, d1, e2, e3, hB, hB', r1, r2, e4, f3]
      exact ⟨m - 1, by omega, i + 1, by omega, rfl⟩
    · have d1 : decide ((i : Int) < (ns.length : Int)) = false := by simp; omega
      simp (maxDischargeDepth := 40) only [Nat.reduceLT, WK_exit, WK_ret, WK_seq, WK_cond, WK_region, WLK_nil, WLK_cons, app_fin, app_seq_normal, app_seq_exit, app_block_exit, app_inv_exit, ne_eq, not_true_eq_false, Keep.refl, Option.some.injEq, exists_eq_left', want, dstOk, opR, ev, put_n, put_tmps, put_defers, selfRel, aNilNil, nilC_tmp, ↓bind_match, ↓reduceIte, Bool.false_eq_true, decide_true, Bool.or_self, Bool.false_eq_true, and_true, ABody, aResults, aResult, tupleOf, body13_0, rs13, aBin_int, intBin, hn, hd, t12, t13, d1]

/-- What a reading of notes answers, and leaves. -/
def RunN (H0 : AH) (bk : Nat) (q : RdV × List NoteV) (ee : Nat) : Ending → AH → Prop := fun en H3 => ∃ pos : Nat, en = .returned (.tuple #[.int .i64 pos, .int .i64 ee]) ∧ KeepIf (· = bk) H0 H3 ∧
  (q.1.e = 0 → ∃ v, H3.get bk = some (.cells [v] 22) ∧ OwnE 32 H0.next H3 v q.2)

theorem runN_of {H0 H2 H3 : AH} {bk : Nat} {q : RdV × List NoteV} {ee e pos : Nat} (hbl : bk < H0.next) (hrd : RdN H0 bk q ee e H2) (hk : RunK H0 H2 H3) : RunN H0 bk q ee (.returned (.tuple #[.int .i64 pos, .int .i64 e])) H3 := by
  obtain ⟨rfl, h1, h2, h3⟩ := hrd
  obtain ⟨k1, k2, k3⟩ := hk
  refine ⟨pos, rfl, ⟨by omega, fun b hb hne => by rw [k2 b hb]; exact h3 b hb hne⟩, fun he => ?_⟩
  obtain ⟨v, hv, ho⟩ := h1 he
  refine ⟨v, by rw [k2 bk hbl]; exact hv, ?_⟩
  rcases ho with h | ⟨b, hv', hb1, hb2, hb3⟩
  · exact .inl h
  · exact .inr ⟨b, hv', hb1, by omega, by rw [k3 b _ _ hb2 hb3 (by decide) (by decide) (by decide)]; exact hb3⟩

theorem run14 {H0 : AH} {bk : Nat} {v v0 : Value} {l : List UInt8} (hv : BytesV H0 v l) (hb : H0.get bk = some (.cells [v0] 22)) (hbl : bk < H0.next) (hl : l.length ≤ 900000) :
    ACalls P 7 [v, .func (.func 14) #[] #[ptr bk]] H0 (RunN H0 bk (getNR ⟨l, 0, 0⟩) (getNR ⟨l, 0, 0⟩).1.e) :=
  run_walk hv hl fn14 ex14 (clo14 hb hbl hl) fun _ _ _ _ hrd hk => runN_of hbl hrd hk

theorem run9 {H0 : AH} {bk : Nat} {v v0 : Value} {l : List UInt8} (hv : BytesV H0 v l) (hb : H0.get bk = some (.cells [v0] 22)) (hbl : bk < H0.next) (hl : l.length ≤ 900000) :
    ACalls P 7 [v, .func (.func 9) #[] #[ptr bk]] H0 (RunN H0 bk (getNR ⟨l, 0, 0⟩) (endE (getNR ⟨l, 0, 0⟩))) :=
  run_walk hv hl fn9 ex9 (clo9 hb hbl hl) fun _ _ _ _ hrd hk => runN_of hbl hrd hk

theorem b45 (l : List UInt8) : aBuild E.ty 45 #[(0, str l)] = some (.agg #[str l, .int .i64 0, .int .i64 0]) := by rfl

theorem notesR_len : ∀ (k : Nat) (r : RdV) (acc : List NoteV), (notesR k r acc).2.length ≤ acc.length + k := by
  intro k
  induction k with
  | zero => intro r acc; simp [notesR]
  | succ k ih =>
    intro r acc
    rw [notesR]
    split
    · simp
    · refine Nat.le_trans (ih _ _) ?_
      simp only [List.length_append, List.length_cons, List.length_nil]
      omega

theorem getNR_len (r : RdV) : (getNR r).2.length ≤ 100000 := by
  unfold getNR
  refine Nat.le_trans (notesR_len _ _ _) ?_
  have := numberR_le (r := r) 65536
  simp only [List.length_nil]
  omega

theorem tail22 {a : AAct} {H : AH} {bl : Value} {bs : List UInt8} {gk : Nat} {v0 : Value} {R : Ending → AH → Prop} (hn : a.n = 130) (hd : a.defers = []) (t1 : a.tmps 1 = some bl) (t13 : a.tmps 13 = some (ptr gk))
    (hg : H.get gk = some (.cells [v0] 22)) (hgl : gk < H.next) (hb : BytesV H bl bs) (hl : bs.length ≤ 100000) (hR : ∀ H', R (.returned (.bool true)) H') :
    WK E (fnOf P) pur0 (plsOf plans 3) tail3_22 (.fin (ABody E x3 R)) a H := by
  have hcall := run14 hb hg hgl (by omega)
  have hok : (⟨bs, 0, 0⟩ : RdV).Ok := ⟨by simp only; omega, Nat.zero_le _⟩
  have hget := fun H0 => getN_walk (H0 := H0) hok
  have hbound : (getNR ⟨bs, 0, 0⟩).2.length ≤ 100000 := getNR_len _
  generalize hq : getNR ⟨bs, 0, 0⟩ = q at hcall hget hbound
  have k0 : ((0 : Nat) : Int) = 0 := rfl
  simp only [RdV.val_eq, k0] at hget
  simp (maxDischargeDepth := 40) only [Nat.reduceEqDiff, Nat.reduceLT, WK_seq, WK_region, WLK_cons, List.cons_append, want, dstOk, opR, opE, opC, ev, evs, put_n, put_tmps, opCallR, ↓bind_match, ↓map_match, ↓reduceIte, decide_true, true_and, List.cons_append, List.nil_append, tail3_22, hn, t1, t13, pur0, fn7, ex7]
  refine CallK_of hcall (fun w H1 h => ?_) (fun ch H1 h => by obtain ⟨_, h, _⟩ := h; cases h) (fun H1 h => by obtain ⟨_, h, _⟩ := h; cases h)
  obtain ⟨pos, h, hk, hv⟩ := h
  cases h
  have hk1 := hk.1
  have hbv1 : BytesV H1 bl bs := by
    rcases hb with h | ⟨b, o, cap, cs, h1, h2, h3, h4, h5⟩
    · exact .inl h
    · have hne : b ≠ gk := by
        rintro rfl
        rcases h2 with h2 | ⟨_, h2⟩
        · rw [hg] at h2
          injection h2 with h2
          injection h2 with _ he
          exact absurd he (by decide)
        · rw [hg] at h2; cases h2
      exact .inr ⟨b, o, cap, cs, h1, by rw [hk.2 b h5 hne]; exact h2, h3, h4, by omega⟩
  have hconv := aConvert_bytes (ty := E.ty) ty23 rfl ty5 rfl ty9 rfl hbv1
  simp (maxDischargeDepth := 40) only [Nat.reduceEqDiff, Nat.reduceLT, WK_seq, WK_region, WLK_nil, WLK_cons, app_seq_normal, List.cons_append, want, dstOk, opR, opE, opC, ev, evs, evParts, put_n, put_tmps, opCallR, ↓bind_match, ↓reduceIte, decide_true, true_and, List.getElem?_toArray, List.getElem?_cons_zero, List.getElem?_cons_succ, List.cons_append, List.nil_append, tail3_23, hn, t1, pur0, aExtract, hconv, b45, fn15, ex15]
  refine CallK_of (hget H1) (fun w H2 h => ?_) (fun ch H2 h => by obtain ⟨_, h, _⟩ := h; cases h) (fun H2 h => by obtain ⟨_, h, _⟩ := h; cases h)
  obtain ⟨wv, h, hw, hk2⟩ := h
  cases h
  have hk21 := hk2.1
  have hw' : ∀ x, NotesAt ((H2.push (.cells [str [], .int .i64 0, .int .i64 0] 45)).set H2.next x) 33 wv q.2 := fun x => hw.keep ((Keep.push (Keep.refl _) _).set _ _ (by omega))
  simp (maxDischargeDepth := 40) only [Nat.reduceEqDiff, Nat.reduceLT, Nat.reduceAdd, Nat.le_refl, WLK_nil, WLK_cons, app_seq_normal, List.drop_succ_cons, List.all_cons, List.all_nil, oc_int, oc_str, cells_agg, Bool.and_self, aNew, aAlloc, aStore, List.cons_append, List.take_zero, List.drop_zero, List.length_cons, List.length_nil, Nat.zero_add, str_def, AH.store, splice, AH.get_push, want, dstOk, opR, opE, ev, put_n, put_tmps, put_none, ↓bind_match, ↓map_match, ↓reduceIte, decide_true, true_and, and_true, List.toList_toArray, List.size_toArray, List.getElem?_toArray, List.getElem?_cons_zero, List.getElem?_cons_succ, List.cons_append, List.nil_append, hn, aExtract, ty45]
  have e0 : ((q.1.e : Int) == (q.1.e : Int)) = true := by simp
  by_cases he : q.1.e = 0
  · have e1 : ((q.1.e : Int) != 0) = false := by simp [he]
    obtain ⟨v, hv1, ho⟩ := hv he
    have hgl1 : gk < H1.next := by omega
    have hv2 : ∀ x, ((H2.push (.cells [str [], .int .i64 0, .int .i64 0] 45)).set H2.next x).get gk = some (.cells [v] 22) := by
      intro x
      rw [AH.get_set_ne _ _ _ _ (by omega), AH.get_push_ne _ _ _ (by omega), hk2.2 gk hgl1]; exact hv1
    have ho2 : ∀ x, NotesAt ((H2.push (.cells [str [], .int .i64 0, .int .i64 0] 45)).set H2.next x) 32 v q.2 := fun x => ho.notes.keep (hk2.trans ((Keep.push (Keep.refl _) _).set _ _ (by omega)))
    have hl2 := fun x => hv2 (some (.cells x 45))
    have hH := hv2 (some (.cells [str q.1.s, .int .i64 q.1.pos, .int .i64 q.1.e] 45))
    have hself := AH.get_set_same (H2.push (.cells [str [], .int .i64 0, .int .i64 0] 45)) H2.next (some (.cells [str q.1.s, .int .i64 q.1.pos, .int .i64 q.1.e] 45))
    have hsame := same_h (ho2 (some (.cells [str q.1.s, .int .i64 q.1.pos, .int .i64 q.1.e] 45))) (hw' _) hbound
    generalize (H2.push (.cells [str [], .int .i64 0, .int .i64 0] 45)).set H2.next (some (.cells [str q.1.s, .int .i64 q.1.pos, .int .i64 q.1.e] 45)) = H3 at hH hself hsame
    simp (maxDischargeDepth := 40) only [Nat.reduceEqDiff, Nat.reduceLT, Nat.reduceAdd, Nat.le_refl, WK_seq, WK_region, WLK_cons, ne_eq, not_true_eq_false, List.take_succ_cons, List.drop_succ_cons, List.head?_cons, isAggD, aFieldAddr, aLoad, List.cons_append, List.take_zero, List.drop_zero, List.length_cons, List.length_nil, Nat.zero_add, str_def, AH.load, Nat.succ_ne_self, want, dstOk, opR, opE, opC, ev, evs, put_n, put_tmps, selfRel, aNilNil, nilC_tmp, nilC_int, opCallR, ↓bind_match, ↓reduceIte, Bool.false_eq_true, decide_true, Bool.or_self, beq_self_eq_true, Bool.false_eq_true, true_and, List.getElem?_toArray, List.getElem?_cons_zero, List.getElem?_cons_succ, List.cons_append, List.nil_append, tail3_24, aBin_int, intBin, ty3, ty22, ty45, hn, t13, e1, hH, hself, pur0, fn13, ex13]
    refine CallK_pure hsame ?_
    simp (maxDischargeDepth := 40) only [Nat.reduceEqDiff, Nat.reduceLT, WK_ret, WLK_nil, WLK_cons, app_fin, app_seq_normal, Option.some.injEq, exists_eq_left', want, dstOk, opR, ev, put_n, put_tmps, put_defers, ↓bind_match, ↓reduceIte, decide_true, beq_self_eq_true, true_and, List.getElem?_toArray, List.getElem?_cons_zero, List.getElem?_cons_succ, ABody, aResults, aResult, tupleOf, rs3, hn, hd]
    exact hR _
  · have e1 : ((q.1.e : Int) != 0) = true := by simp [nat_bne0, he]
    simp (maxDischargeDepth := 40) only [Nat.reduceEqDiff, Nat.reduceLT, Nat.reduceAdd, Nat.le_refl, WK_ret, WK_seq, WK_region, WLK_nil, WLK_cons, app_fin, app_seq_normal, ne_eq, not_true_eq_false, List.take_succ_cons, List.drop_succ_cons, List.head?_cons, isAggD, aFieldAddr, aLoad, List.take_zero, List.drop_zero, List.length_cons, List.length_nil, Nat.zero_add, Option.some.injEq, exists_eq_left', str_def, AH.load, AH.get_set, Nat.succ_ne_self, want, dstOk, opR, ev, put_n, put_tmps, put_defers, selfRel, aNilNil, nilC_tmp, nilC_int, ↓bind_match, ↓reduceIte, Bool.false_eq_true, decide_true, Bool.or_self, beq_self_eq_true, beq_false, Bool.not_true, Bool.false_eq_true, true_and, List.getElem?_toArray, List.getElem?_cons_zero, List.getElem?_cons_succ, ABody, aResults, aResult, tupleOf, tail3_24, rs3, aBin_int, intBin, ty3, ty45, hn, hd, e1]
    exact hR _

end Go.Am.Q

/- The statement: its middle. -/
set_option linter.unusedSimpArgs false
set_option linter.unusedSectionVars false
set_option maxRecDepth 20000
namespace Go.Am.Q
open Go Go.Am Go.Proofs
variable [F : Fr]

theorem cells_ne {H : AH} {b c : Nat} {cs cs' : List Value} {e e' : TypeId} (h : H.get b = some (.cells cs e)) (h' : H.get c = some (.cells cs' e')) (he : e ≠ e') : b ≠ c := by
  rintro rfl
  rw [h] at h'
  injection h' with h'
  injection h' with _ h2
  exact he h2

section
variable {H H' : AH} {c : Nat} {cs : List Value} {e : TypeId}

theorem BufAt.kif {lo wb : Nat} {l : List UInt8} (h : BufAt lo H wb l) (hk : KeepIf (· = c) H H') (hc : H.get c = some (.cells cs e)) (h5 : e ≠ 5) (h26 : e ≠ 26) : BufAt lo H' wb l := by
  obtain ⟨h1, v, h2, h3⟩ := h
  refine ⟨Nat.lt_of_lt_of_le h1 hk.1, v, by rw [hk.2 wb h1 (cells_ne h2 hc (Ne.symm h26))]; exact h2, ?_⟩
  rcases h3 with h | ⟨b, hv, hb, hbl, hbo⟩
  · exact .inl h
  · exact .inr ⟨b, hv, by rw [hk.2 b hbl (cells_ne hb hc (Ne.symm h5))]; exact hb, Nat.lt_of_lt_of_le hbl hk.1, hbo⟩

theorem NotesAt.kif {t : TypeId} {v : Value} {ns : List NoteV} (h : NotesAt H t v ns) (hk : KeepIf (· = c) H H') (hc : H.get c = some (.cells cs e)) (ht : t ≠ e) : NotesAt H' t v ns := by
  rcases h with h | ⟨b, cap, hv, hb, hbl⟩
  · exact .inl h
  · exact .inr ⟨b, cap, hv, by rw [hk.2 b hbl (cells_ne hb hc ht)]; exact hb, Nat.lt_of_lt_of_le hbl hk.1⟩

theorem BytesV.kif {v : Value} {l : List UInt8} (h : BytesV H v l) (hk : KeepIf (· = c) H H') (hc : H.get c = some (.cells cs e)) (h5 : e ≠ 5) : BytesV H' v l := by
  rcases h with h | ⟨b, o, cap, cs', h1, h2, h3, h4, hbl⟩
  · exact .inl h
  · have hne : b ≠ c := by
      rcases h2 with h2 | ⟨_, h2⟩
      · exact cells_ne h2 hc (Ne.symm h5)
      · rintro rfl; rw [h2] at hc; cases hc
    exact .inr ⟨b, o, cap, cs', h1, by rw [hk.2 b hbl hne]; exact h2, h3, h4, Nat.lt_of_lt_of_le hbl hk.1⟩
end

theorem neq_str (l : List UInt8) : aBin E.ty E.eqOk .neq 9 (str l) (str l) = some (.bool false) := by
  simp [aBin, str, strBin]

theorem bytesV_of {H : AH} {v' : Value} {l : List UInt8} {lo : Nat} (h : (v' = .slice none 0 0 ∧ l = []) ∨ ∃ b cap, v' = .slice (some ⟨b, 0, none⟩) l.length cap ∧ H.get b = some (.cells (u8s l) 5) ∧ lo ≤ b ∧ b < H.next) : BytesV H v' l := by
  rcases h with h | ⟨b, cap, h1, h2, h3, h4⟩
  · exact .inl h
  · exact .inr ⟨b, 0, cap, u8s l, h1, .inl h2, by rw [List.drop_zero, ← u8s_length l, List.take_length], by rw [u8s_length]; omega, h4⟩

theorem notesText_length {ns : List NoteV} (h : ns.length ≤ 1000) : (notesText ns).length ≤ 200000 := by
  have := noteHead_length (ns := ns) (i := ns.length) h
  unfold noteHead at this
  rw [List.take_length] at this
  exact this

/-- What holds behind the loop. -/
structure Mid (lo : Nat) (bl : Value) (bs : List UInt8) (wb : Nat) (rv : Value) (ns : List NoteV) (may : Bool) (a : AAct) (H : AH) : Prop where
  fn : a.n = 130
  d : a.defers = []
  t1 : a.tmps 1 = some bl
  t5 : a.tmps 5 = some (ptr wb)
  t6 : a.tmps 6 = some rv
  t7 : a.tmps 7 = some (.bool may)
  buf : BufAt lo H wb (notesText ns)
  refs : NotesAt H 33 rv ns
  bytes : BytesV H bl bs
  ok : ∀ n ∈ ns, n.Ok
  len : ns.length ≤ 20
  blen : bs.length ≤ 600
  may : may = true → ∀ n ∈ ns, n.May

theorem tail20 {lo : Nat} {bl : Value} {bs : List UInt8} {wb bk gk : Nat} {rv v0 : Value} {ns : List NoteV} {may : Bool} {a : AAct} {H : AH} {ee : Nat} {R : Ending → AH → Prop} (h : Mid lo bl bs wb rv ns may a H)
    (t12 : a.tmps 12 = some (ptr bk)) (t13 : a.tmps 13 = some (ptr gk)) (t15 : a.tmps 15 = some (.int .i64 ee)) (hgk : H.get gk = some (.cells [v0] 22)) (hgl : gk < H.next)
    (hbk : may = true → ee = 0 ∧ ∃ v, H.get bk = some (.cells [v] 22) ∧ NotesAt H 32 v ns) (hbl : bk < H.next) (hR : ∀ H', R (.returned (.bool true)) H') :
    WK E (fnOf P) pur0 (plsOf plans 3) tail3_20 (.fin (ABody E x3 R)) a H := by
  obtain ⟨hn, hd, t1, t5, t6, t7, hbuf, hrefs, hbytes, hok, hlen, hblen, hmay⟩ := h
  have htl := notesText_length (ns := ns) (by omega)
  have e35 : ((ee : Int) != 0) = (ee != 0) := nat_bne0 ee
  simp (maxDischargeDepth := 40) only [Nat.reduceEqDiff, Nat.reduceLT, WK_seq, WK_draw, WPK_cons, WChks, WChk, evNewA, opRP, List.cons_append, want, dstOk, opR, opE, opC, ev, evs, put_n, put_tmps, opCallR, ↓bind_match, ↓reduceIte, decide_true, true_and, and_true, List.getElem?_toArray, List.getElem?_cons_zero, List.getElem?_cons_succ, List.cons_append, List.nil_append, tail3_20, pl3_20, hn, t5, t6, pur0, fn8, ex8]
  refine CallP_of (bytes_walk hbuf (by omega)) (fun w H1 h => ?_) (fun ch H1 h => by obtain ⟨_, h, _⟩ := h; cases h) (fun H1 h => by obtain ⟨_, h, _⟩ := h; cases h)
  obtain ⟨v', h, hk1, hv'⟩ := h
  cases h
  have hk11 := hk1.1
  have hbv := bytesV_of hv'
  have hconv := aConvert_bytes (ty := E.ty) ty23 rfl ty5 rfl ty9 rfl hbv
  have htext : HPure P 12 [rv] H1 (str (notesText ns)) := HPure_of (selfRel_str _ _) (text_walk (hrefs.keep hk1) hok (by omega))
  simp (maxDischargeDepth := 40) only [Nat.reduceEqDiff, Nat.reduceLT, WPK_cons, WChks, WChk, evNewA, opRP, List.cons_append, Nat.succ_ne_self, want, dstOk, opR, opE, opC, ev, evs, put_n, put_tmps, opCallR, ↓bind_match, ↓reduceIte, decide_true, true_and, and_true, List.getElem?_toArray, List.getElem?_cons_zero, List.getElem?_cons_succ, List.cons_append, List.nil_append, hn, t6, pur0, hconv, fn12, ex12]
  refine CallP_pure htext ?_
  have hns := neq_str (notesText ns)
  have hgk1 : H1.get gk = some (.cells [v0] 22) := by rw [hk1.2 gk hgl]; exact hgk
  cases may with
  | true =>
    obtain ⟨he0, v, hbk1, hbn⟩ := hbk rfl
    subst he0
    have hbk2 : H1.get bk = some (.cells [v] 22) := by rw [hk1.2 bk hbl]; exact hbk1
    have hsame := same_h (hbn.keep hk1) (hrefs.keep hk1) (by omega)
    have z0 : (((0 : Nat) : Int) != 0) = false := by decide
    simp (maxDischargeDepth := 40) only [Nat.reduceEqDiff, Nat.reduceLT, Nat.le_refl, WPK_cons, WChks, WChk, evNewA, opRP, ne_eq, not_true_eq_false, List.take_succ_cons, List.head?_cons, isAggD, aLoad, List.cons_append, List.take_zero, List.drop_zero, List.length_cons, List.length_nil, Nat.zero_add, AH.load, want, dstOk, opR, opE, opC, ev, evs, put_n, put_tmps, selfRel, aNilNil, nilC_tmp, nilC_int, opCallR, ↓bind_match, ↓reduceIte, Bool.false_eq_true, decide_true, Bool.or_self, beq_self_eq_true, Bool.false_eq_true, true_and, and_true, List.getElem?_toArray, List.getElem?_cons_zero, List.getElem?_cons_succ, List.cons_append, List.nil_append, hn, t6, t7, t12, t15, pur0, hconv, hns, aBin_int, intBin, z0, ty22, hbk2, fn13, ex13]
    refine CallP_pure hsame ?_
    simp (maxDischargeDepth := 40) only [Nat.reduceEqDiff, Nat.reduceLT, WK_skip, WK_cond, WPK_cons, app_seq_normal, WChks, WChk, evNewA, opRP, ne_eq, not_true_eq_false, List.cons_append, want, dstOk, opR, ev, put_n, put_tmps, selfRel, aNilNil, nilC_tmp, nilC_int, ↓bind_match, ↓reduceIte, Bool.false_eq_true, decide_true, Bool.or_self, beq_self_eq_true, Bool.not_true, Bool.false_eq_true, true_and, and_true, List.getElem?_toArray, List.getElem?_cons_zero, List.getElem?_cons_succ, List.cons_append, List.nil_append, hn, t7, t15, hconv, hns, aBin_int, intBin, z0, aUn]
    refine tail22 ?_ ?_ ?_ ?_ hgk1 (by omega) (hbytes.keep hk1) (by omega) hR
    · simp only [put_n, hn]
    · simp only [put_defers, hd]
    all_goals simp (maxDischargeDepth := 40) only [Nat.reduceEqDiff, put_tmps, ↓reduceIte, t1, t13]
  | false =>
    simp (maxDischargeDepth := 40) only [Nat.reduceEqDiff, Nat.reduceLT, WK_skip, WK_cond, WPK_cons, app_seq_normal, WChks, WChk, evNewA, opRP, List.cons_append, want, dstOk, opR, ev, put_n, put_tmps, selfRel, aNilNil, nilC_tmp, ↓bind_match, ↓reduceIte, Bool.false_eq_true, decide_true, Bool.or_self, beq_self_eq_true, beq_true, Bool.false_eq_true, true_and, and_true, List.getElem?_toArray, List.getElem?_cons_zero, List.getElem?_cons_succ, List.cons_append, List.nil_append, hn, t7, hconv, hns, undef]
    refine tail22 ?_ ?_ ?_ ?_ hgk1 (by omega) (hbytes.keep hk1) (by omega) hR
    · simp only [put_n, hn]
    · simp only [put_defers, hd]
    all_goals simp (maxDischargeDepth := 40) only [Nat.reduceEqDiff, put_tmps, ↓reduceIte, t1, t13]

end Go.Am.Q

/- The statement: its loop. -/
set_option linter.unusedSimpArgs false
set_option linter.unusedSectionVars false
set_option maxRecDepth 20000
namespace Go.Am.Q
open Go Go.Am Go.Proofs
variable [F : Fr]

theorem tail18 {lo : Nat} {bl : Value} {bs : List UInt8} {wb : Nat} {rv : Value} {ns : List NoteV} {may : Bool} {a : AAct} {H : AH} {R : Ending → AH → Prop} (h : Mid lo bl bs wb rv ns may a H) (hR : ∀ H', R (.returned (.bool true)) H') :
    WK E (fnOf P) pur0 (plsOf plans 3) tail3_18 (.fin (ABody E x3 R)) a H := by
  obtain ⟨hn, hd, t1, t5, t6, t7, hbuf, hrefs, hbytes, hok, hlen, hblen, hmay⟩ := h
  have htl := notesText_length (ns := ns) (by omega)
  have hk0 : Keep H ((H.push (.cells [.slice none 0 0] 22)).push (.cells [.slice none 0 0] 22)) := ((Keep.refl H).push _).push _
  simp (maxDischargeDepth := 40) only [Nat.reduceEqDiff, Nat.reduceLT, WK_seq, WK_region, WLK_nil, WLK_cons, app_seq_normal, List.all_cons, List.all_nil, oc_slice, cells_slice, Bool.and_self, aNew, aAlloc, List.cons_append, AH.next_push, want, dstOk, opR, opE, opC, ev, evs, put_n, put_tmps, opCallR, ↓bind_match, ↓reduceIte, decide_true, true_and, List.toList_toArray, List.cons_append, List.nil_append, tail3_18, ty22, hn, t5, pur0, fn8, ex8]
  refine CallK_of (bytes_walk (hbuf.keep hk0) (by omega)) (fun w H1 h => ?_) (fun ch H1 h => by obtain ⟨_, h, _⟩ := h; cases h) (fun H1 h => by obtain ⟨_, h, _⟩ := h; cases h)
  obtain ⟨v', h, hk1, hv'⟩ := h
  cases h
  have hk11 := hk1.1
  simp only [AH.next_push] at hk11
  have hbv := bytesV_of hv'
  have hkk := hk0.trans hk1
  have g12 : H1.get H.next = some (.cells [.slice none 0 0] 22) := by
    rw [hk1.2 _ (by simp only [AH.next_push]; omega), AH.get_push_ne _ _ _ (by simp only [AH.next_push]; omega)]
    exact AH.get_push_same _ _
  have g13 : H1.get (H.next + 1) = some (.cells [.slice none 0 0] 22) := by
    rw [hk1.2 _ (by simp only [AH.next_push]; omega)]
    exact AH.get_push_same _ _
  have hcall := run9 hbv g12 (by omega) (by omega)
  simp (maxDischargeDepth := 40) only [Nat.reduceEqDiff, Nat.reduceLT, WLK_cons, List.cons_append, want, dstOk, opR, opE, opC, ev, evs, put_n, put_tmps, opCallR, ↓bind_match, ↓map_match, ↓reduceIte, decide_true, true_and, List.cons_append, List.nil_append, hn, pur0, fn7, ex7]
  refine CallK_of hcall (fun w H3 h => ?_) (fun ch H3 h => by obtain ⟨_, h, _⟩ := h; cases h) (fun H3 h => by obtain ⟨_, h, _⟩ := h; cases h)
  obtain ⟨pos, h, hk3, hv3⟩ := h
  cases h
  have hk31 := hk3.1
  simp (maxDischargeDepth := 40) only [Nat.reduceEqDiff, Nat.reduceLT, WLK_nil, WLK_cons, app_seq_normal, want, dstOk, opR, ev, put_n, put_tmps, ↓bind_match, ↓reduceIte, decide_true, true_and, List.getElem?_toArray, List.getElem?_cons_zero, List.getElem?_cons_succ, hn, aExtract]
  refine tail20 (lo := lo) (bl := bl) (bs := bs) (wb := wb) (bk := H.next) (gk := H.next + 1) (rv := rv) (v0 := .slice none 0 0) (ns := ns) (may := may) (ee := endE (getNR ⟨notesText ns, 0, 0⟩))
    ⟨?_, ?_, ?_, ?_, ?_, ?_, (hbuf.keep hkk).kif hk3 g12 (by decide) (by decide), (hrefs.keep hkk).kif hk3 g12 (by decide), BytesV.kif (hbytes.keep hkk) hk3 g12 (by decide), hok, hlen, hblen, hmay⟩ ?_ ?_ ?_ ?_ ?_ ?_ ?_ hR
  · simp only [put_n, hn]
  · simp only [put_defers, hd]
  · simp (maxDischargeDepth := 40) only [Nat.reduceEqDiff, put_tmps, ↓reduceIte, t1]
  · simp (maxDischargeDepth := 40) only [Nat.reduceEqDiff, put_tmps, ↓reduceIte, t5]
  · simp (maxDischargeDepth := 40) only [Nat.reduceEqDiff, put_tmps, ↓reduceIte, t6]
  · simp (maxDischargeDepth := 40) only [Nat.reduceEqDiff, put_tmps, ↓reduceIte, t7]
  · simp (maxDischargeDepth := 40) only [Nat.reduceEqDiff, put_tmps, ↓reduceIte]
  · simp (maxDischargeDepth := 40) only [Nat.reduceEqDiff, put_tmps, ↓reduceIte]
  · simp (maxDischargeDepth := 40) only [put_tmps, ↓reduceIte]
  · rw [hk3.2 (H.next + 1) (by omega) (by omega)]; exact g13
  · omega
  · intro hm
    obtain ⟨e1, e2, e3⟩ := endE_text (hmay hm) (by omega)
    refine ⟨e1, ?_⟩
    obtain ⟨v, hv, ho⟩ := hv3 e2
    rw [e3] at ho
    exact ⟨v, hv, ho.notes⟩
  · omega

def okI (y : Int) : Bool := decide (y ≥ 0) && decide (y ≤ 1099511627776)

def FEq (a a' : AAct) : Prop := ∀ t, t < 60 → t ≠ 7 → t ≠ 11 → t ≠ 59 → a'.tmps t = a.tmps t

theorem FEq.put {a a' : AAct} (h : FEq a a') {d : Nat} {v : Value} (hd : 60 ≤ d ∨ d = 7 ∨ d = 11 ∨ d = 59) : FEq a (a'.put (some d) v) := by
  intro t h1 h2 h3 h4
  rw [put_tmps, if_neg (by omega)]
  exact h t h1 h2 h3 h4

/-- May all of these numbers be? -/
theorem in3 {a : AAct} {H : AH} {pb : Nat} {m0 : Bool} {l : List Int} (K : Kont) (hn : a.n = 130) (hd : a.defers = []) (t57 : a.tmps 57 = some (.slice (some ⟨pb, 0, none⟩) 6 6)) (t58 : a.tmps 58 = some (.int .i64 6))
    (t59 : a.tmps 59 = some (.int .i64 0)) (t7 : a.tmps 7 = some (.bool m0)) (hP : H.get pb = some (.cells (l.map (.int .i64)) 3)) (hl : l.length = 6)
    (go : ∀ a', a'.n = 130 → a'.defers = [] → FEq a a' → a'.tmps 7 = some (.bool (m0 && l.all okI)) → app E (fnOf P) pur0 (plsOf plans 3) K .normal a' H) :
    WK E (fnOf P) pur0 (plsOf plans 3) (.loop body3_0) (.block 2 K) a H := by
  rw [WK_loop]
  refine ⟨fun m a' H' => H' = H ∧ ∃ j, j + m = 6 ∧ a'.n = 130 ∧ a'.defers = [] ∧ FEq a a' ∧ a'.tmps 7 = some (.bool (m0 && (l.take j).all okI)) ∧ a'.tmps 59 = some (.int .i64 j), 6,
    ⟨rfl, 0, rfl, hn, hd, fun t _ _ _ _ => rfl, by simp [t7], t59⟩, ?_⟩
  rintro m a' H' ⟨rfl, j, hjm, hn', hd', hf, h7, h59⟩
  have h57 : a'.tmps 57 = some (.slice (some ⟨pb, 0, none⟩) 6 6) := by rw [hf 57 (by decide) (by decide) (by decide) (by decide)]; exact t57
  have h58 : a'.tmps 58 = some (.int .i64 6) := by rw [hf 58 (by decide) (by decide) (by decide) (by decide)]; exact t58
  by_cases hj : j < 6
  · have d1 : decide ((j : Int) < 6) = true := by simp; omega
    obtain ⟨y, hy⟩ : ∃ y, l[j]? = some y := ⟨_, List.getElem?_eq_getElem (by rw [hl]; exact hj)⟩
    have hy' : (l.map (Value.int .i64))[j]? = some (.int .i64 y) := by simp [hy]
    obtain ⟨s1, s2⟩ := take_one hy'
    have e3 : aIndexAddr E.ty 34 (.slice (some ⟨pb, 0, none⟩) 6 6) (.int .i64 (j : Int)) = some (.pointer (some ⟨pb, j, none⟩)) := by
      rw [aIndexAddr_slice ty34 rfl ty3 hj]; simp
    have f3 : IntKind.i64.wrap ((j : Int) + 1) = ((j + 1 : Nat) : Int) := by rw [wrap_i64 (by omega) (by omega)]; simp
    have hT : (l.take (j + 1)).all okI = ((l.take j).all okI && okI y) := by
      rw [List.take_add_one, hy, List.all_append]
      simp
    have key : ∀ b : Bool, b = (m0 && (l.take j).all okI && okI y) → ∀ a2 : AAct, a2.n = 130 → a2.defers = [] → FEq a a2 → a2.tmps 7 = some (.bool b) → a2.tmps 59 = some (.int .i64 ((j + 1 : Nat) : Int)) →
        ∃ m', m' < m ∧ H' = H' ∧ ∃ j', j' + m' = 6 ∧ a2.n = 130 ∧ a2.defers = [] ∧ FEq a a2 ∧ a2.tmps 7 = some (.bool (m0 && (l.take j').all okI)) ∧ a2.tmps 59 = some (.int .i64 (j' : Int)) := by
      intro b hb a2 g1 g2 g3 g4 g5
      exact ⟨m - 1, by omega, rfl, j + 1, by omega, g1, g2, g3, by rw [hT, ← Bool.and_assoc, ← hb]; exact g4, g5⟩
    have inv : ∀ (J : AAct → AH → Prop) (k : Kont) (a2 : AAct) (H2 : AH), J a2 H2 → app E (fnOf P) pur0 (plsOf plans 3) (.inv J k) .normal a2 H2 := fun _ _ _ _ h => h
    cases hb : (m0 && (l.take j).all okI) with
    | false =>
      rw [hb] at h7
      simp (maxDischargeDepth := 40) only [Nat.reduceEqDiff, Nat.reduceLT, WK_skip, WK_seq, WK_cond, WK_block, WK_region, WLK_nil, WLK_cons, app_seq_normal, app_block_normal, ne_eq, not_true_eq_false, List.head?_cons, isAggD, aLoad, AH.load, want, dstOk, opR, ev, put_n, put_tmps, selfRel, aNilNil, nilC_tmp, nilC_int, ↓bind_match, ↓reduceIte, Bool.false_eq_true, decide_true, Bool.or_self, beq_true, Bool.false_eq_true, true_and, List.getElem?_toArray, List.getElem?_cons_zero, List.getElem?_cons_succ, body3_0, aBin_int, intBin, ty3, hn', h7, h57, h58, h59, d1, e3, hP, s1, s2, f3, undef]
      refine inv _ _ _ _ (key false (by rw [hb]; rfl) _ ?_ ?_ ?_ ?_ ?_)
      · simp only [put_n, hn']
      · simp only [put_defers, hd']
      · repeat' first | with_reducible exact hf | apply FEq.put | decide
      all_goals simp (maxDischargeDepth := 40) only [Nat.reduceEqDiff, put_tmps, ↓reduceIte]
    | true =>
      rw [hb] at h7
      cases hd1 : decide (y ≥ 0) with
      | false =>
        simp (maxDischargeDepth := 40) only [Nat.reduceEqDiff, Nat.reduceLT, WK_skip, WK_seq, WK_cond, WK_block, WK_region, WLK_nil, WLK_cons, app_seq_normal, app_block_normal, ne_eq, not_true_eq_false, List.head?_cons, isAggD, aLoad, AH.load, want, dstOk, opR, ev, put_n, put_tmps, selfRel, aNilNil, nilC_tmp, nilC_int, ↓bind_match, ↓reduceIte, Bool.false_eq_true, decide_true, Bool.or_self, beq_self_eq_true, beq_true, Bool.false_eq_true, true_and, List.getElem?_toArray, List.getElem?_cons_zero, List.getElem?_cons_succ, body3_0, aBin_int, intBin, ty3, hn', h7, h57, h58, h59, d1, e3, hP, s1, s2, f3, hd1, undef]
        refine inv _ _ _ _ (key false (by rw [hb]; simp only [okI, hd1]; rfl) _ ?_ ?_ ?_ ?_ ?_)
        · simp only [put_n, hn']
        · simp only [put_defers, hd']
        · repeat' first | with_reducible exact hf | apply FEq.put | decide
        all_goals simp (maxDischargeDepth := 40) only [Nat.reduceEqDiff, put_tmps, ↓reduceIte]
      | true =>
        simp (maxDischargeDepth := 40) only [Nat.reduceEqDiff, Nat.reduceLT, WK_skip, WK_seq, WK_cond, WK_block, WK_region, WLK_nil, WLK_cons, app_seq_normal, app_block_normal, ne_eq, not_true_eq_false, List.head?_cons, isAggD, aLoad, AH.load, want, dstOk, opR, ev, put_n, put_tmps, selfRel, aNilNil, nilC_tmp, nilC_int, ↓bind_match, ↓reduceIte, Bool.false_eq_true, decide_true, Bool.or_self, beq_self_eq_true, Bool.false_eq_true, true_and, List.getElem?_toArray, List.getElem?_cons_zero, List.getElem?_cons_succ, body3_0, aBin_int, intBin, ty3, hn', h7, h57, h58, h59, d1, e3, hP, s1, s2, f3, hd1]
        refine inv _ _ _ _ (key (decide (y ≤ 1099511627776)) (by rw [hb]; simp only [okI, hd1, Bool.true_and]) _ ?_ ?_ ?_ ?_ ?_)
        · simp only [put_n, hn']
        · simp only [put_defers, hd']
        · repeat' first | with_reducible exact hf | apply FEq.put | decide
        all_goals simp (maxDischargeDepth := 40) only [Nat.reduceEqDiff, put_tmps, ↓reduceIte]
  · have d1 : decide ((j : Int) < 6) = false := by simp; omega
    have hj6 : j = 6 := by omega
    subst hj6
    have ht6 : l.take 6 = l := List.take_of_length_le (by omega)
    rw [ht6] at h7
    simp (maxDischargeDepth := 40) only [Nat.reduceLT, WK_exit, WK_seq, WK_cond, WK_region, WLK_nil, WLK_cons, app_seq_normal, app_seq_exit, app_block_exit, app_inv_exit, ne_eq, not_true_eq_false, want, dstOk, opR, ev, put_tmps, aNilNil, nilC_tmp, ↓bind_match, ↓reduceIte, Bool.false_eq_true, decide_true, Bool.or_self, Bool.false_eq_true, true_and, body3_0, aBin_int, intBin, hn', h58, h59, d1]
    refine go _ ?_ ?_ ?_ ?_
    · simp only [put_n, hn']
    · simp only [put_defers, hd']
    · exact hf.put (by decide)
    · simp (maxDischargeDepth := 40) only [Nat.reduceEqDiff, put_tmps, ↓reduceIte, h7]

end Go.Am.Q

/- The statement: the walk. -/
set_option linter.unusedSimpArgs false
set_option linter.unusedSectionVars false
set_option maxRecDepth 20000
namespace Go.Am.Q
open Go Go.Am Go.Proofs
variable [F : Fr]

/-- Kept, but for blocks of one type. -/
def KeepT (e : TypeId) (H H' : AH) : Prop := H.next ≤ H'.next ∧ (∀ b cs t, b < H.next → H.get b = some (.cells cs t) → t ≠ e → H'.get b = some (.cells cs t)) ∧
  ∀ b cs t, b < H.next → H.get b = some (.ro cs t) → H'.get b = some (.ro cs t)

theorem KeepT.refl (e : TypeId) (H : AH) : KeepT e H H := ⟨Nat.le_refl _, fun _ _ _ _ h _ => h, fun _ _ _ _ h => h⟩

theorem KeepT.push {e : TypeId} {H H' : AH} (h : KeepT e H H') (x : Blk) : KeepT e H (H'.push x) := by
  have h1 := h.1
  refine ⟨by simp only [AH.next_push]; omega, fun b cs t hb hc ht => ?_, fun b cs t hb hc => ?_⟩
  · rw [AH.get_push_ne _ _ _ (by omega)]
    exact h.2.1 b cs t hb hc ht
  · rw [AH.get_push_ne _ _ _ (by omega)]
    exact h.2.2 b cs t hb hc

theorem KeepT.set {e : TypeId} {H H' : AH} (h : KeepT e H H') {c : Nat} (hc : H.next ≤ c ∨ ∃ cs, H.get c = some (.cells cs e)) (x : Option Blk) : KeepT e H (H'.set c x) := by
  refine ⟨h.1, fun b cs t hb hbc ht => ?_, fun b cs t hb hbc => ?_⟩
  · have hne : b ≠ c := by
      rcases hc with hc | ⟨cs', hc⟩
      · omega
      · exact cells_ne hbc hc ht
    rw [AH.get_set_ne _ _ _ _ hne]
    exact h.2.1 b cs t hb hbc ht
  · have hne : b ≠ c := by
      rcases hc with hc | ⟨cs', hc⟩
      · omega
      · rintro rfl; rw [hbc] at hc; cases hc
    rw [AH.get_set_ne _ _ _ _ hne]
    exact h.2.2 b cs t hb hbc

theorem KeepT.trans {e : TypeId} {H H' H'' : AH} (h : KeepT e H H') (h' : KeepT e H' H'') : KeepT e H H'' :=
  ⟨Nat.le_trans h.1 h'.1, fun b cs t hb hc ht => h'.2.1 b cs t (Nat.lt_of_lt_of_le hb h.1) (h.2.1 b cs t hb hc ht) ht,
    fun b cs t hb hc => h'.2.2 b cs t (Nat.lt_of_lt_of_le hb h.1) (h.2.2 b cs t hb hc)⟩

section
variable {H H' : AH} {e : TypeId}

theorem BufAt.kt {lo wb : Nat} {l : List UInt8} (h : BufAt lo H wb l) (hk : KeepT e H H') (h5 : 5 ≠ e) (h26 : 26 ≠ e) : BufAt lo H' wb l := by
  obtain ⟨h1, v, h2, h3⟩ := h
  refine ⟨Nat.lt_of_lt_of_le h1 hk.1, v, hk.2.1 _ _ _ h1 h2 h26, ?_⟩
  rcases h3 with h | ⟨b, hv, hb, hbl, hbo⟩
  · exact .inl h
  · exact .inr ⟨b, hv, hk.2.1 _ _ _ hbl hb h5, Nat.lt_of_lt_of_le hbl hk.1, hbo⟩

theorem RoNotes.kt {v : Value} {ns : List NoteV} (h : RoNotes H v ns) (hk : KeepT e H H') : RoNotes H' v ns := by
  rcases h with h | ⟨b, cap, e', hv, hb, hbl⟩
  · exact .inl h
  · exact .inr ⟨b, cap, e', hv, hk.2.2 _ _ _ hbl hb, Nat.lt_of_lt_of_le hbl hk.1⟩

theorem BytesV.kt {v : Value} {l : List UInt8} (h : BytesV H v l) (hk : KeepT e H H') (h5 : 5 ≠ e) : BytesV H' v l := by
  rcases h with h | ⟨b, o, cap, cs', h1, h2, h3, h4, hbl⟩
  · exact .inl h
  · refine .inr ⟨b, o, cap, cs', h1, ?_, h3, h4, Nat.lt_of_lt_of_le hbl hk.1⟩
    rcases h2 with h2 | ⟨t, h2⟩
    · exact .inl (hk.2.1 _ _ _ hbl h2 h5)
    · exact .inr ⟨t, hk.2.2 _ _ _ hbl h2⟩
end

def mayN (n : NoteV) : Bool := n.nums.all okI && decide ((n.number : Int) ≤ 1099511627776)

theorem mayN_may {n : NoteV} (h : mayN n = true) : n.May := by
  simp only [mayN, Bool.and_eq_true, decide_eq_true_eq, List.all_eq_true, okI] at h
  refine ⟨by simp only [most40]; omega, fun y hy => ?_⟩
  have := h.1 y hy
  simp only [most40]
  omega

structure Lw (lo : Nat) (sl bl : Value) (bs : List UInt8) (wb i : Nat) (rv : Value) (ns : List NoteV) (a : AAct) (H : AH) : Prop where
  fn : a.n = 130
  d : a.defers = []
  t1 : a.tmps 1 = some bl
  t5 : a.tmps 5 = some (ptr wb)
  t6 : a.tmps 6 = some rv
  t7 : a.tmps 7 = some (.bool ((ns.take i).all mayN))
  t35 : a.tmps 35 = some sl
  t36 : a.tmps 36 = some (.int .i64 ns.length)
  t37 : a.tmps 37 = some (.int .i64 i)
  buf : BufAt lo H wb (notesText ns)
  own : OwnE 33 lo H rv (ns.take i)
  notes : RoNotes H sl ns
  bytes : BytesV H bl bs
  lo : lo ≤ H.next

/-- A round. -/
theorem bw1 {lo : Nat} {sl bl : Value} {bs : List UInt8} {wb i : Nat} {rv : Value} {ns : List NoteV} {a : AAct} {H : AH} (K : Kont) (hlen : ns.length ≤ 20) (h : Lw lo sl bl bs wb i rv ns a H)
    (go : i < ns.length → ∀ a' H' rv', Lw lo sl bl bs wb (i + 1) rv' ns a' H' → app E (fnOf P) pur0 (plsOf plans 3) K .normal a' H')
    (out : ns.length ≤ i → ∀ a' H', Lw lo sl bl bs wb i rv ns a' H' → app E (fnOf P) pur0 (plsOf plans 3) K (.exit 0) a' H') :
    WK E (fnOf P) pur0 (plsOf plans 3) body3_1 K a H := by
  have hL := h
  obtain ⟨hn, hd, t1, t5, t6, t7, t35, t36, t37, hbuf, hown, hnotes, hbytes, hlo⟩ := h
  by_cases hi : i < ns.length
  · have go := go hi
    have d0 : decide ((i : Int) < (ns.length : Int)) = true := by simp; omega
    rcases id hnotes with ⟨_, hnil⟩ | ⟨b, cap, _, rfl, hB, hb⟩
    · rw [hnil] at hi; simp at hi
    obtain ⟨x, hx⟩ : ∃ x, ns[i]? = some x := ⟨ns[i], by simp [hi]⟩
    obtain ⟨r1, r2⟩ := take_row NoteV.cells 8 NoteV.cells_length hx
    have e2 : aIndexAddr E.ty 22 (.slice (some ⟨b, 0, none⟩) ns.length cap) (.int .i64 (i : Int)) = some (.pointer (some ⟨b, i * 8, none⟩)) := by
      rw [aIndexAddr_slice ty22 rfl ty32 hi]; simp
    have e34 : ∀ H a, aLen E.ty H 34 (.slice a 6 6) = some (.int .i64 6) := fun H a => aLen_slice ty34 rfl _ _ _
    have f3 : IntKind.i64.wrap ((i : Int) + 1) = ((i + 1 : Nat) : Int) := by rw [wrap_i64 (by omega) (by omega)]; simp
    have hbs := fun H => bs29 H (.int .u64 x.number) (.int .i64 x.bytes) (.int .i64 x.erased) (.int .i64 x.chunks) (.int .i64 x.empty) (.int .i64 x.found) (.int .i64 x.good) (.bool x.whole) rfl
    have hall : (ns.take (i + 1)).all mayN = ((ns.take i).all mayN && mayN x) := by
      rw [List.take_add_one, hx, List.all_append]
      simp
    have htk : ns.take (i + 1) = ns.take i ++ [x] := by rw [List.take_add_one, hx]; rfl
    have hil : (ns.take i).length = i := by simp only [List.length_take]; omega
    -- what comes behind, with the heap and the row as they are
    have fin : ∀ (a2 : AAct) (H4 : AH) (rv' : Value), KeepT 33 H H4 → OwnE 33 lo H4 rv' (ns.take (i + 1)) → H4.get H.next = some (.cells x.cells 32) → H4.get (H.next + 3) = some (.cells (x.nums.map (.int .i64)) 3) →
        a2.n = 130 → a2.defers = [] → a2.tmps 1 = some bl → a2.tmps 5 = some (ptr wb) → a2.tmps 6 = some rv' → a2.tmps 7 = some (.bool ((ns.take i).all mayN)) → a2.tmps 35 = some (.slice (some ⟨b, 0, none⟩) ns.length cap) →
        a2.tmps 36 = some (.int .i64 ns.length) → a2.tmps 37 = some (.int .i64 i) → a2.tmps 9 = some (ptr H.next) → a2.tmps 57 = some (.slice (some ⟨H.next + 3, 0, none⟩) 6 6) → a2.tmps 58 = some (.int .i64 6) → a2.tmps 59 = some (.int .i64 0) →
        WK E (fnOf P) pur0 (plsOf plans 3) (.loop body3_0) (.block 2 (.seq (.region 16 #[⟨(some 73), (.move (.tmp 7)), 0, "", #[], none⟩,
          ⟨(some 74), (.move (.tmp 73)), 0, "", #[], none⟩,
          ⟨(some 75), (.fieldAddr 32 (.tmp 9) 0), 0, "", #[], (some (1, true))⟩,
          ⟨(some 76), (.load 30 (.tmp 75)), 0, "", #[], (some (1, true))⟩,
          ⟨(some 77), (.binOp .leq 30 (.tmp 76) (.const (.int .u64 1099511627776)) 30), 0, "", #[], (some (1, true))⟩,
          ⟨(some 78), (.pick (.tmp 74) (.tmp 77) (.const (.bool false))), 0, "", #[], none⟩,
          ⟨(some 7), (.assign (.tmp 78)), 0, "", #[], none⟩] false) (.block 1 (.seq (.region 17 #[⟨(some 79), (.binOp .add 3 (.tmp 37) (.const (.int .i64 1)) 3), 0, "", #[], none⟩,
          ⟨(some 37), (.move (.tmp 79)), 0, "", #[], none⟩] false) K)))) a2 H4 := by
      intro a2 H4 rv' hk hown' hN hP u0 ud u1 u5 u6 u7 u35 u36 u37 u9 u57 u58 u59
      refine in3 _ u0 ud u57 u58 u59 u7 hP rfl fun a3 w0 wd hf w7 => ?_
      have w1 := (hf 1 (by decide) (by decide) (by decide) (by decide)).trans u1
      have w5 := (hf 5 (by decide) (by decide) (by decide) (by decide)).trans u5
      have w6 := (hf 6 (by decide) (by decide) (by decide) (by decide)).trans u6
      have w9 := (hf 9 (by decide) (by decide) (by decide) (by decide)).trans u9
      have w35 := (hf 35 (by decide) (by decide) (by decide) (by decide)).trans u35
      have w36 := (hf 36 (by decide) (by decide) (by decide) (by decide)).trans u36
      have w37 := (hf 37 (by decide) (by decide) (by decide) (by decide)).trans u37
      simp only [NoteV.cells] at hN
      have hk1 := hk.1
      cases hc : ((ns.take i).all mayN && x.nums.all okI) with
      | true =>
        rw [hc] at w7
        have hm : (ns.take (i + 1)).all mayN = decide ((x.number : Int) ≤ 1099511627776) := by
          rw [hall, mayN, ← Bool.and_assoc, hc, Bool.true_and]
        simp (maxDischargeDepth := 40) only [Nat.reduceEqDiff, Nat.reduceLT, Nat.reduceLeDiff, Nat.reduceAdd, Nat.reduceLeDiff,  WK_region, WLK_nil, WLK_cons, app_seq_normal, app_block_normal, ne_eq, not_true_eq_false, List.take_succ_cons, List.head?_cons, isAggD, aFieldAddr, aLoad, List.take_zero, List.drop_zero, List.length_cons, List.length_nil, Nat.zero_add, AH.load, Nat.succ_ne_self, want, dstOk, opR, ev, put_n, put_tmps, selfRel, aNilNil, nilC_tmp, nilC_int, ↓bind_match, ↓reduceIte, Bool.false_eq_true, decide_true, Bool.or_self, beq_self_eq_true, Bool.false_eq_true, true_and, List.getElem?_toArray, List.getElem?_cons_zero, List.getElem?_cons_succ, ty30, ty32, aBin_int, intBin, w0, w7, w9, w37, hN, f3]
        refine go _ _ rv' ⟨?_, ?_, ?_, ?_, ?_, ?_, ?_, ?_, ?_, hbuf.kt hk (by decide) (by decide), hown', hnotes.kt hk, BytesV.kt hbytes hk (by decide), by omega⟩
        · simp only [put_n, w0]
        · simp only [put_defers, wd]
        · simp (maxDischargeDepth := 40) only [Nat.reduceEqDiff, put_tmps, ↓reduceIte, w1]
        · simp (maxDischargeDepth := 40) only [Nat.reduceEqDiff, put_tmps, ↓reduceIte, w5]
        · simp (maxDischargeDepth := 40) only [Nat.reduceEqDiff, put_tmps, ↓reduceIte, w6]
        · simp (maxDischargeDepth := 40) only [Nat.reduceEqDiff, put_tmps, ↓reduceIte, hm]
        · simp (maxDischargeDepth := 40) only [Nat.reduceEqDiff, put_tmps, ↓reduceIte, w35]
        · simp (maxDischargeDepth := 40) only [Nat.reduceEqDiff, put_tmps, ↓reduceIte, w36]
        · simp (maxDischargeDepth := 40) only [put_tmps, ↓reduceIte]
      | false =>
        rw [hc] at w7
        have hm : (ns.take (i + 1)).all mayN = false := by
          rw [hall, mayN, ← Bool.and_assoc, hc, Bool.false_and]
        simp (maxDischargeDepth := 40) only [Nat.reduceEqDiff, Nat.reduceLT, WK_region, WLK_nil, WLK_cons, app_seq_normal, app_block_normal, ne_eq, not_true_eq_false, want, dstOk, opR, ev, put_n, put_tmps, selfRel, aNilNil, nilC_tmp, nilC_int, ↓bind_match, ↓reduceIte, Bool.false_eq_true, decide_true, Bool.or_self, beq_true, Bool.false_eq_true, true_and, List.getElem?_toArray, List.getElem?_cons_zero, List.getElem?_cons_succ, aBin_int, intBin, w0, w7, w37, f3, undef]
        refine go _ _ rv' ⟨?_, ?_, ?_, ?_, ?_, ?_, ?_, ?_, ?_, hbuf.kt hk (by decide) (by decide), hown', hnotes.kt hk, BytesV.kt hbytes hk (by decide), by omega⟩
        · simp only [put_n, w0]
        · simp only [put_defers, wd]
        · simp (maxDischargeDepth := 40) only [Nat.reduceEqDiff, put_tmps, ↓reduceIte, w1]
        · simp (maxDischargeDepth := 40) only [Nat.reduceEqDiff, put_tmps, ↓reduceIte, w5]
        · simp (maxDischargeDepth := 40) only [Nat.reduceEqDiff, put_tmps, ↓reduceIte, w6]
        · simp (maxDischargeDepth := 40) only [Nat.reduceEqDiff, put_tmps, ↓reduceIte, hm]
        · simp (maxDischargeDepth := 40) only [Nat.reduceEqDiff, put_tmps, ↓reduceIte, w35]
        · simp (maxDischargeDepth := 40) only [Nat.reduceEqDiff, put_tmps, ↓reduceIte, w36]
        · simp (maxDischargeDepth := 40) only [put_tmps, ↓reduceIte]
    rcases id hown with ⟨rfl, hz⟩ | ⟨ob, rfl, hb1, hb2, hb3⟩
    · have m_0_1 : ¬ b = H.next := by omega
      have m_0_2 : ¬ b = H.next + 1 := by omega
      have m_0_3 : ¬ b = H.next + 2 := by omega
      have m_0_4 : ¬ b = H.next + 3 := by omega
      have m_1_0 : ¬ H.next = b := by omega
      have m_1_2 : ¬ H.next = H.next + 1 := by omega
      have m_1_3 : ¬ H.next = H.next + 2 := by omega
      have m_1_4 : ¬ H.next = H.next + 3 := by omega
      have m_2_0 : ¬ H.next + 1 = b := by omega
      have m_2_1 : ¬ H.next + 1 = H.next := by omega
      have m_2_3 : ¬ H.next + 1 = H.next + 2 := by omega
      have m_2_4 : ¬ H.next + 1 = H.next + 3 := by omega
      have m_3_0 : ¬ H.next + 2 = b := by omega
      have m_3_1 : ¬ H.next + 2 = H.next := by omega
      have m_3_2 : ¬ H.next + 2 = H.next + 1 := by omega
      have m_3_4 : ¬ H.next + 2 = H.next + 3 := by omega
      have m_4_0 : ¬ H.next + 3 = b := by omega
      have m_4_1 : ¬ H.next + 3 = H.next := by omega
      have m_4_2 : ¬ H.next + 3 = H.next + 1 := by omega
      have m_4_3 : ¬ H.next + 3 = H.next + 2 := by omega
      have hap := ap29_nil ((H.push (.cells [.int .u64 0, .int .i64 0, .int .i64 0, .int .i64 0, .int .i64 0, .int .i64 0, .int .i64 0, .bool false] 32)).set H.next
        (some (.cells [.int .u64 x.number, .int .i64 x.bytes, .int .i64 x.erased, .int .i64 x.chunks, .int .i64 x.empty, .int .i64 x.found, .int .i64 x.good, .bool x.whole] 32)))
        [.int .u64 x.number, .int .i64 x.bytes, .int .i64 x.erased, .int .i64 x.chunks, .int .i64 x.empty, .int .i64 x.found, .int .i64 x.good, .bool x.whole] rfl
      simp only [AH.next_set, AH.next_push] at hap
      simp (maxDischargeDepth := 40) only [Nat.reduceEqDiff, Nat.reduceLT, Nat.reduceLeDiff, Nat.reduceAdd, Nat.le_refl, Nat.reduceLeDiff,  WK_skip, WK_seq, WK_cond, WK_block, WK_region, WLK_nil, WLK_cons, app_seq_normal, ne_eq, not_true_eq_false, List.take_succ_cons, List.drop_succ_cons, List.head?_cons, isAggD, List.all_cons, List.all_nil, oc_int, oc_bool, cells_agg, Bool.and_self, aNew, aAlloc, aFieldAddr, aLoad, aStore, List.cons_append, List.take_zero, List.drop_zero, List.length_cons, List.length_nil, Nat.zero_add, AH.load, AH.store, splice, AH.get_push, AH.get_set, AH.next_push, AH.next_set, Nat.succ_ne_self, want, dstOk, opR, opE, ev, evs, evParts, put_n, put_tmps, put_none, selfRel, aNilNil, nilC_tmp, opCallR, ↓bind_match, ↓map_match, ↓reduceIte, Bool.false_eq_true, decide_true, Bool.or_self, Bool.false_eq_true, true_and, and_true, List.toList_toArray, List.size_toArray, List.getElem?_toArray, List.getElem?_cons_zero, List.getElem?_cons_succ, List.cons_append, List.nil_append, body3_1, aBin_int, intBin, ty3, ty32, hn, t6, t35, t36, t37, d0, e2, hB, r1, r2, NoteV.cells, hbs, hap, bs34, e34, m_1_2, m_1_3]
      have hi0 : i = 0 := by have := congrArg List.length hz; rw [hil] at this; simpa using this
      refine fin _ _ (.slice (some ⟨H.next + 2, 0, none⟩) 1 unk) (((((KeepT.refl 33 H).push _).set (.inl (Nat.le_refl _)) _).push _).push _ |>.push _) ?_ ?_ ?_ ?_ ?_ ?_ ?_ ?_ ?_ ?_ ?_ ?_ ?_ ?_ ?_ ?_
      · refine .inr ⟨H.next + 2, ?_, by omega, by simp only [AH.next_set, AH.next_push]; omega, ?_⟩
        · rw [htk, hz]; rfl
        · rw [htk, hz]
          simp (maxDischargeDepth := 40) only [List.cons_append, AH.get_push, AH.next_push, AH.next_set, ↓reduceIte, List.cons_append, List.nil_append, m_3_4, NoteV.cells, List.flatMap_cons, List.flatMap_nil]
      · simp (maxDischargeDepth := 40) only [AH.get_push, AH.get_set, AH.next_push, AH.next_set, ↓reduceIte, m_1_2, m_1_3, m_1_4, NoteV.cells]
      · simp (maxDischargeDepth := 40) only [Option.some.injEq, AH.get_push, AH.next_push, AH.next_set, ↓reduceIte]
        rfl
      · simp only [put_n, hn]
      · simp only [put_defers, hd]
      all_goals simp (maxDischargeDepth := 40) only [Nat.reduceEqDiff, Nat.succ_ne_self, put_tmps, ↓reduceIte, t1, t5, t7, t35, t36, t37]
    · have hbo : b ≠ ob := by rintro rfl; rw [hB] at hb3; cases hb3
      have m_0_1 : ¬ b = H.next := by omega
      have m_0_2 : ¬ b = H.next + 1 := by omega
      have m_0_3 : ¬ b = H.next + 2 := by omega
      have m_0_4 : ¬ b = H.next + 3 := by omega
      have m_1_0 : ¬ H.next = b := by omega
      have m_1_2 : ¬ H.next = H.next + 1 := by omega
      have m_1_3 : ¬ H.next = H.next + 2 := by omega
      have m_1_4 : ¬ H.next = H.next + 3 := by omega
      have m_2_0 : ¬ H.next + 1 = b := by omega
      have m_2_1 : ¬ H.next + 1 = H.next := by omega
      have m_2_3 : ¬ H.next + 1 = H.next + 2 := by omega
      have m_2_4 : ¬ H.next + 1 = H.next + 3 := by omega
      have m_3_0 : ¬ H.next + 2 = b := by omega
      have m_3_1 : ¬ H.next + 2 = H.next := by omega
      have m_3_2 : ¬ H.next + 2 = H.next + 1 := by omega
      have m_3_4 : ¬ H.next + 2 = H.next + 3 := by omega
      have m_4_0 : ¬ H.next + 3 = b := by omega
      have m_4_1 : ¬ H.next + 3 = H.next := by omega
      have m_4_2 : ¬ H.next + 3 = H.next + 1 := by omega
      have m_4_3 : ¬ H.next + 3 = H.next + 2 := by omega
      have p_0_1 : ¬ H.next = H.next + 1 := by omega
      have p_0_2 : ¬ H.next = H.next + 2 := by omega
      have p_0_3 : ¬ H.next = H.next + 3 := by omega
      have p_0_4 : ¬ H.next = ob := by omega
      have p_1_0 : ¬ H.next + 1 = H.next := by omega
      have p_1_2 : ¬ H.next + 1 = H.next + 2 := by omega
      have p_1_3 : ¬ H.next + 1 = H.next + 3 := by omega
      have p_1_4 : ¬ H.next + 1 = ob := by omega
      have p_2_0 : ¬ H.next + 2 = H.next := by omega
      have p_2_1 : ¬ H.next + 2 = H.next + 1 := by omega
      have p_2_3 : ¬ H.next + 2 = H.next + 3 := by omega
      have p_2_4 : ¬ H.next + 2 = ob := by omega
      have p_3_0 : ¬ H.next + 3 = H.next := by omega
      have p_3_1 : ¬ H.next + 3 = H.next + 1 := by omega
      have p_3_2 : ¬ H.next + 3 = H.next + 2 := by omega
      have p_3_4 : ¬ H.next + 3 = ob := by omega
      have p_4_0 : ¬ ob = H.next := by omega
      have p_4_1 : ¬ ob = H.next + 1 := by omega
      have p_4_2 : ¬ ob = H.next + 2 := by omega
      have p_4_3 : ¬ ob = H.next + 3 := by omega
      have hb3' : ((H.push (.cells [.int .u64 0, .int .i64 0, .int .i64 0, .int .i64 0, .int .i64 0, .int .i64 0, .int .i64 0, .bool false] 32)).set H.next
        (some (.cells [.int .u64 x.number, .int .i64 x.bytes, .int .i64 x.erased, .int .i64 x.chunks, .int .i64 x.empty, .int .i64 x.found, .int .i64 x.good, .bool x.whole] 32))).get ob = some (.cells ((ns.take i).flatMap NoteV.cells) 33) := by
        rw [AH.get_set_ne _ _ _ _ (by omega), AH.get_push_ne _ _ _ (by omega)]; exact hb3
      have hap := ap29_own ((H.push (.cells [.int .u64 0, .int .i64 0, .int .i64 0, .int .i64 0, .int .i64 0, .int .i64 0, .int .i64 0, .bool false] 32)).set H.next
        (some (.cells [.int .u64 x.number, .int .i64 x.bytes, .int .i64 x.erased, .int .i64 x.chunks, .int .i64 x.empty, .int .i64 x.found, .int .i64 x.good, .bool x.whole] 32)))
        [.int .u64 x.number, .int .i64 x.bytes, .int .i64 x.erased, .int .i64 x.chunks, .int .i64 x.empty, .int .i64 x.found, .int .i64 x.good, .bool x.whole] _ ob (ns.take i).length rfl hb3'
        (by simp only [AH.next_set, AH.next_push]; omega) (notes_length _) (by omega)
      simp only [AH.next_set, AH.next_push] at hap
      simp (maxDischargeDepth := 40) only [Nat.reduceEqDiff, Nat.reduceLT, Nat.reduceLeDiff, Nat.reduceAdd, Nat.le_refl, Nat.reduceLeDiff,  WK_skip, WK_seq, WK_cond, WK_block, WK_region, WLK_nil, WLK_cons, app_seq_normal, ne_eq, not_true_eq_false, List.take_succ_cons, List.drop_succ_cons, List.head?_cons, isAggD, List.all_cons, List.all_nil, oc_int, oc_bool, cells_agg, Bool.and_self, aNew, aAlloc, aFieldAddr, aLoad, aStore, List.cons_append, List.take_zero, List.drop_zero, List.length_cons, List.length_nil, Nat.zero_add, AH.load, AH.store, splice, AH.get_push, AH.get_set, AH.next_push, AH.next_set, Nat.succ_ne_self, want, dstOk, opR, opE, ev, evs, evParts, put_n, put_tmps, put_none, selfRel, aNilNil, nilC_tmp, opCallR, ↓bind_match, ↓map_match, ↓reduceIte, Bool.false_eq_true, decide_true, Bool.or_self, Bool.false_eq_true, true_and, and_true, List.toList_toArray, List.size_toArray, List.getElem?_toArray, List.getElem?_cons_zero, List.getElem?_cons_succ, List.cons_append, List.nil_append, body3_1, aBin_int, intBin, ty3, ty32, hn, t6, t35, t36, t37, d0, e2, hB, r1, r2, NoteV.cells, hbs, hap, bs34, e34, m_1_2, m_1_3, p_0_4]
      refine fin _ _ (.slice (some ⟨H.next + 2, 0, none⟩) ((ns.take i).length + 1) unk) ((((((KeepT.refl 33 H).push _).set (.inl (Nat.le_refl _)) _).push _).set (.inr ⟨_, hb3⟩) _).push _ |>.push _) ?_ ?_ ?_ ?_ ?_ ?_ ?_ ?_ ?_ ?_ ?_ ?_ ?_ ?_ ?_ ?_
      · refine .inr ⟨H.next + 2, ?_, by omega, by simp only [AH.next_set, AH.next_push]; omega, ?_⟩
        · rw [htk, List.length_append]; rfl
        · rw [htk]
          simp (maxDischargeDepth := 40) only [List.cons_append, AH.get_push, AH.next_push, AH.next_set, ↓reduceIte, List.cons_append, List.nil_append, p_2_3, NoteV.cells, List.flatMap_append, List.flatMap_cons, List.flatMap_nil]
      · simp (maxDischargeDepth := 40) only [AH.get_push, AH.get_set, AH.next_push, AH.next_set, ↓reduceIte, p_0_1, p_0_2, p_0_3, p_0_4, NoteV.cells]
      · simp (maxDischargeDepth := 40) only [Option.some.injEq, AH.get_push, AH.next_push, AH.next_set, ↓reduceIte]
        rfl
      · simp only [put_n, hn]
      · simp only [put_defers, hd]
      all_goals simp (maxDischargeDepth := 40) only [Nat.reduceEqDiff, Nat.succ_ne_self, put_tmps, ↓reduceIte, t1, t5, t7, t35, t36, t37]
  · have d0 : decide ((i : Int) < (ns.length : Int)) = false := by simp; omega
    simp (maxDischargeDepth := 40) only [Nat.reduceLT, WK_exit, WK_seq, WK_cond, WK_region, WLK_nil, WLK_cons, app_seq_normal, app_seq_exit, ne_eq, not_true_eq_false, want, dstOk, opR, ev, put_tmps, aNilNil, nilC_tmp, ↓bind_match, ↓reduceIte, Bool.false_eq_true, decide_true, Bool.or_self, Bool.false_eq_true, true_and, body3_1, aBin_int, intBin, hn, t36, t37, d0]
    refine out (by omega) _ _ ⟨?_, ?_, ?_, ?_, ?_, ?_, ?_, ?_, ?_, hbuf, hown, hnotes, hbytes, hlo⟩
    · simp only [put_n, hn]
    · simp only [put_defers, hd]
    all_goals simp (maxDischargeDepth := 40) only [Nat.reduceEqDiff, put_tmps, ↓reduceIte, t1, t5, t6, t7, t35, t36, t37]

end Go.Am.Q

/- The statement: true, if its example lives. -/
set_option linter.unusedSimpArgs false
set_option linter.unusedSectionVars false
set_option maxRecDepth 20000
namespace Go.Am.Q
open Go Go.Am Go.Proofs
variable [F : Fr]

noncomputable def x5 : FnI := ⟨Tryz.f5.body.getD .skip, 33, [(.tmp 0)]⟩
theorem fn5 : fnOf P 5 = some x5 := by kernel_rfl
theorem ex5 : E.ext 5 = none := by kernel_rfl

theorem report_walk {H0 : AH} {sl bl : Value} {ns : List NoteV} {bs : List UInt8} (hlives : HPure P 5 [] H0 (.bool true)) (hn : RoNotes H0 sl ns) (hok : ∀ n ∈ ns, n.Ok) (hb : BytesV H0 bl bs) {R : Ending → AH → Prop}
    (hR : ∀ H', R (.returned (.bool true)) H') : ACalls P 3 [sl, bl] H0 R := by
  refine ACalls_K E (fnOf_ok P) mixed pur0_ok fn3 ok3 sx3 (by simp [nt3]) ?_
  simp only [nt3]
  obtain ⟨sa, sc, hse⟩ := hn.len
  obtain ⟨ba, bc, hbe⟩ := hb.len
  have e22 : ∀ H, aLen E.ty H 22 sl = some (.int .i64 ns.length) := fun H => by rw [hse]; exact aLen_slice ty22 rfl _ _ _
  have e23 : ∀ H, aLen E.ty H 23 bl = some (.int .i64 bs.length) := fun H => by rw [hbe]; exact aLen_slice ty23 rfl _ _ _
  simp (maxDischargeDepth := 40) only [Nat.reduceLT, WK_seq, WK_region, WLK_nil, WLK_cons, app_seq_normal, Nat.zero_add, want, dstOk, opR, opE, opC, ev, evs, entry, argT, put_n, selfRel, opCallR, ↓bind_match, ↓reduceIte, decide_true, true_and, List.nil_append, code3, pur0, fn5, ex5]
  refine CallK_pure hlives ?_
  by_cases h20 : ns.length ≤ 20
  · have d1 : decide ((ns.length : Int) > 20) = false := by simp; omega
    by_cases h600 : bs.length ≤ 600
    · have d2 : decide ((bs.length : Int) > 600) = false := by simp; omega
      have hk0 : Keep H0 (H0.push (.cells [.slice none 0 0] 26)) := (Keep.refl H0).push _
      have hbuf0 : BufAt (H0.next + 1) (H0.push (.cells [.slice none 0 0] 26)) H0.next [] := ⟨by simp only [AH.next_push]; omega, _, AH.get_push_same _ _, .inl ⟨rfl, rfl⟩⟩
      have hput := nput_walk hbuf0 (hn.keep hk0) hok (by omega) (by simp) (Nat.le_refl _)
      rw [List.nil_append] at hput
      simp (maxDischargeDepth := 40) only [Nat.reduceEqDiff, Nat.reduceLT, reduceCtorEq, WK_skip, WK_seq, WK_cond, WK_region, WLK_nil, WLK_cons, app_seq_normal, ne_eq, not_true_eq_false, List.all_cons, List.all_nil, oc_slice, cells_agg, Bool.and_self, aNew, aAlloc, List.cons_append, Nat.succ_ne_self, want, dstOk, opR, opE, opC, ev, evs, put_n, put_tmps, selfRel, aNilNil, nilC_tmp, nilC_int, opCallR, ↓bind_match, ↓reduceIte, Bool.false_eq_true, decide_true, Bool.or_self, beq_self_eq_true, Bool.not_true, Bool.false_eq_true, true_and, List.toList_toArray, List.getElem?_toArray, List.getElem?_cons_zero, List.getElem?_cons_succ, List.cons_append, List.nil_append, aBin_int, intBin, aUn, ty26, e22, e23, d1, d2, pur0, fn6, ex6]
      refine CallK_buf hput (fun H1 h1 hk1 => ?_)
      have hk11 := hk1.1
      simp only [AH.next_push] at hk11
      have hnotes1 : RoNotes H1 sl ns := by
        rcases hn with h | ⟨b, cap, e, h1', h2', h3'⟩
        · exact .inl h
        · refine .inr ⟨b, cap, e, h1', hk1.ro ?_ (by simp only [AH.next_push]; omega) (AH.get_push_same _ _), by omega⟩
          rw [AH.get_push_ne _ _ _ (by omega)]; exact h2'
      have hbytes1 : BytesV H1 bl bs := by
        rcases hb with h | ⟨b, o, cap, cs, h1', h2', h3', h4', h5'⟩
        · exact .inl h
        · refine .inr ⟨b, o, cap, cs, h1', ?_, h3', h4', by omega⟩
          rw [hk1.2 b (by simp only [AH.next_push]; omega) (by omega) (fun hc => by omega), AH.get_push_ne _ _ _ (by omega)]
          exact h2'
      simp (maxDischargeDepth := 40) only [Nat.reduceLT, reduceCtorEq, WK_seq, WK_block, WK_loop, WK_region, WLK_nil, WLK_cons, app_seq_normal, want, dstOk, opR, ev, evs, put_n, put_tmps, selfRel, opCallR, ↓bind_match, ↓reduceIte, decide_true, true_and, e22]
      refine ⟨fun m a H => ∃ i rv, i + m = ns.length ∧ Lw (H0.next + 1) sl bl bs H0.next i rv ns a H, ns.length, ⟨0, .slice none 0 0, by omega, ⟨?_, ?_, ?_, ?_, ?_, ?_, ?_, ?_, ?_, h1, .inl ⟨rfl, rfl⟩, hnotes1, hbytes1, by omega⟩⟩, ?_⟩
      · simp only [put_n]
      · simp only [put_defers]
      · simp (maxDischargeDepth := 40) only [Nat.reduceEqDiff, Nat.succ_ne_self, put_tmps, ↓reduceIte]
      · simp (maxDischargeDepth := 40) only [Nat.reduceEqDiff, put_tmps, ↓reduceIte]
      · simp (maxDischargeDepth := 40) only [Nat.reduceEqDiff, put_tmps, ↓reduceIte]
      · simp (maxDischargeDepth := 40) only [Nat.reduceEqDiff, List.all_nil, List.take_zero, put_tmps, ↓reduceIte]
      · simp (maxDischargeDepth := 40) only [Nat.reduceEqDiff, put_tmps, ↓reduceIte]
      · simp (maxDischargeDepth := 40) only [Nat.reduceEqDiff, put_tmps, ↓reduceIte]
      · simp (maxDischargeDepth := 40) only [Option.some.injEq, put_tmps, ↓reduceIte]
        rfl
      · rintro m a H ⟨i, rv, him, hL⟩
        refine bw1 _ h20 hL (fun hi a2 H2 rv2 h2 => ?_) (fun hi a2 H2 h2 => ?_)
        · simp only [app_inv_normal]
          exact ⟨m - 1, by omega, i + 1, rv2, by omega, h2⟩
        · obtain ⟨q1, q2, q3, q4, q5, q6, q7, q8, q9, q10, q11, q12, q13, q14⟩ := h2
          have htk : ns.take i = ns := List.take_of_length_le hi
          rw [htk] at q6 q11
          simp only [app_inv_exit, app_block_exit, if_true, app_seq_normal]
          refine tail18 ⟨q1, q2, q3, q4, q5, q6, q10, q11.notes, q13, hok, h20, h600, ?_⟩ hR
          intro hm n hn'
          rw [List.all_eq_true] at hm
          exact mayN_may (hm n hn')
    · have d2 : decide ((bs.length : Int) > 600) = true := by simp; omega
      simp (maxDischargeDepth := 40) only [Nat.reduceEqDiff, Nat.reduceLT, reduceCtorEq, WK_seq, WK_cond, WK_region, WLK_nil, WLK_cons, app_seq_normal, ne_eq, not_true_eq_false, Nat.succ_ne_self, want, dstOk, opR, opE, opC, ev, evs, put_n, put_tmps, selfRel, aNilNil, nilC_tmp, nilC_int, opCallR, ↓bind_match, ↓reduceIte, Bool.false_eq_true, decide_true, Bool.or_self, beq_self_eq_true, Bool.not_true, Bool.false_eq_true, true_and, List.getElem?_toArray, List.getElem?_cons_zero, List.getElem?_cons_succ, List.nil_append, aBin_int, intBin, aUn, e22, e23, d1, d2, pur0, fn5, ex5]
      refine CallK_pure hlives ?_
      simp (maxDischargeDepth := 40) only [Nat.reduceLT, WK_ret, WLK_nil, WLK_cons, app_fin, app_seq_normal, app_seq_ret, Option.some.injEq, exists_eq_left', want, dstOk, opR, ev, put_n, put_tmps, put_defers, ↓reduceIte, decide_true, true_and, ABody, aResults, aResult, tupleOf, rs3]
      exact hR _
  · have d1 : decide ((ns.length : Int) > 20) = true := by simp; omega
    simp (maxDischargeDepth := 40) only [Nat.reduceEqDiff, Nat.reduceLT, reduceCtorEq, WK_seq, WK_cond, WK_region, WLK_nil, WLK_cons, app_seq_normal, ne_eq, not_true_eq_false, want, dstOk, opR, opE, opC, ev, evs, put_n, put_tmps, selfRel, aNilNil, nilC_tmp, nilC_int, opCallR, ↓bind_match, ↓reduceIte, Bool.false_eq_true, decide_true, Bool.or_self, beq_self_eq_true, beq_false, Bool.not_true, Bool.false_eq_true, true_and, List.getElem?_toArray, List.getElem?_cons_zero, List.getElem?_cons_succ, List.nil_append, aBin_int, intBin, aUn, e22, d1, pur0, fn5, ex5]
    refine CallK_pure hlives ?_
    simp (maxDischargeDepth := 40) only [Nat.reduceLT, WK_ret, WLK_nil, WLK_cons, app_fin, app_seq_normal, app_seq_ret, Option.some.injEq, exists_eq_left', want, dstOk, opR, ev, put_n, put_tmps, put_defers, ↓reduceIte, decide_true, true_and, ABody, aResults, aResult, tupleOf, rs3]
    exact hR _

end Go.Am.Q
