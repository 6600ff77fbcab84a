/- What the document reads as notes. -/
import Derived.Test.YtdicnaninnmoeaaGreatKe
import Derived.Test.YtdicnaninnmoeaaGreatAmX3
set_option linter.unusedSectionVars false
set_option linter.unusedSimpArgs false
set_option linter.unusedVariables false
set_option linter.unnecessarySimpa false
/- The document's notes, read: the walk. -/
set_option linter.unusedSimpArgs false
set_option linter.unusedSectionVars false
set_option maxRecDepth 20000
namespace Go.Am.Q
open Go Go.Am Go.Proofs
variable [F : Fr]

/-- A row of notes that was made here. -/
def Own (lo : Nat) (H : AH) (v : Value) (ns : List NoteV) : Prop :=
  (v = .slice none 0 0 ∧ ns = []) ∨ ∃ b, v = .slice (some ⟨b, 0, none⟩) ns.length unk ∧ lo ≤ b ∧ b < H.next ∧ H.get b = some (.cells (ns.flatMap NoteV.cells) 33)

theorem Own.notes {lo : Nat} {H : AH} {v : Value} {ns : List NoteV} (h : Own lo H v ns) : NotesAt H 33 v ns := by
  rcases h with h | ⟨b, h1, h2, h3, h4⟩
  · exact .inl h
  · exact .inr ⟨b, unk, h1, h4, h3⟩

def u64s (l : List Nat) : List Value := l.map fun x => .int .u64 ((x : Nat) : Int)

theorem u64s_length (l : List Nat) : (u64s l).length = l.length := by simp [u64s]

theorem u64s_set {l : List Nat} {j : Nat} (h : l.length = j) (hj : j < 6) (x : Nat) :
    (u64s l ++ List.replicate (6 - j) (Value.int .u64 0)).take j ++ [Value.int .u64 (x : Int)] ++ (u64s l ++ List.replicate (6 - j) (Value.int .u64 0)).drop (j + 1) = u64s (l ++ [x]) ++ List.replicate (6 - (j + 1)) (Value.int .u64 0) := by
  have hl : (u64s l).length = j := by rw [u64s_length, h]
  have e1 : 6 - j = (6 - (j + 1)) + 1 := by omega
  rw [List.take_append_of_le_length (by omega), List.take_of_length_le (by omega)]
  rw [e1, List.replicate_succ]
  have : (u64s l ++ Value.int .u64 0 :: List.replicate (6 - (j + 1)) (.int .u64 0)).drop (j + 1) = List.replicate (6 - (j + 1)) (.int .u64 0) := by
    rw [List.drop_append, List.drop_of_length_le (by omega), hl]
    have : j + 1 - j = 1 := by omega
    rw [this]
    simp
  rw [this]
  simp [u64s]

theorem b33 : aBuild E.ty 33 #[] = some (.agg #[.int .u64 0, .int .i64 0, .int .i64 0, .int .i64 0, .int .i64 0, .int .i64 0, .int .i64 0, .bool false]) := by kernel_rfl


/-- What holds where a round begins. -/
structure Lp (H0 : AH) (count i : Nat) (v : Value) (acc : List NoteV) (r : RdV) (a : AAct) (H : AH) : Prop where
  n : a.n = 111
  d : a.defers = []
  t1 : a.tmps 1 = some (.pointer (some ⟨H0.next, 0, none⟩))
  t2 : a.tmps 2 = some (.pointer (some ⟨H0.next + 1, 0, none⟩))
  t5 : a.tmps 5 = some v
  t18 : a.tmps 18 = some (.int .u64 count)
  t19 : a.tmps 19 = some (.int .u64 i)
  own : Own (H0.next + 2) H v acc
  hB : H.get H0.next = some (.cells [str r.s, .int .i64 r.pos, .int .i64 r.e] 45)
  hC : ∃ c0 c1 c2, H.get (H0.next + 1) = some (.cells [c0, c1, c2] 45)
  nx : H0.next + 2 ≤ H.next
  keep : Keep H0 H

/-- And with a note that comes to be. -/
structure Nt (H0 : AH) (nb count i : Nat) (v : Value) (acc : List NoteV) (r : RdV) (n : NoteV) (a : AAct) (H : AH) : Prop where
  lp : Lp H0 count i v acc r a H
  t6 : a.tmps 6 = some (.pointer (some ⟨nb, 0, none⟩))
  hN : H.get nb = some (.cells n.cells 33)
  lo : H0.next + 2 ≤ nb
  hi : nb < H.next
  own : ∀ b, v = .slice (some ⟨b, 0, none⟩) acc.length unk → b ≠ nb

theorem bs29 (H : AH) (c0 c1 c2 c3 c4 c5 c6 : Value) (c7 : Value) (h : [c0, c1, c2, c3, c4, c5, c6, c7].all (·.oneCell') = true) :
    aBuildSlice E.ty H 29 1 #[(0, .agg #[c0, c1, c2, c3, c4, c5, c6, c7])] = some (.slice (some ⟨H.next, 0, none⟩) 1 1, H.push (.cells [c0, c1, c2, c3, c4, c5, c6, c7] 33)) :=
  aBuildSlice_agg ty29 rfl ty33 (by decide) (by decide) rfl h

theorem ap29_nil (H : AH) (xs : List Value) (h : xs.length = 8) : aAppend E.ty (H.push (.cells xs 33)) 29 29 (.slice none 0 0) (.slice (some ⟨H.next, 0, none⟩) 1 1) =
    some (.slice (some ⟨H.next + 1, 0, none⟩) 1 unk, (H.push (.cells xs 33)).push (.cells xs 33)) := by
  have hx : (H.push (.cells xs 33)).load H.next 0 (1 * 8) = some xs := by
    simp only [AH.load, AH.get_push_same]
    rw [if_pos (by omega), List.drop_zero, List.take_of_length_le (by omega)]
  exact aAppend_nil ty29 rfl ty33 (by decide) (by decide) (by decide) hx (by decide) (by decide)

theorem ap29_own (H : AH) (xs cs : List Value) (b len : Nat) (h : xs.length = 8) (hb : H.get b = some (.cells cs 33)) (hn : b ≠ H.next) (hl : cs.length = len * 8) (hk : len + 1 ≤ 4294967296) :
    aAppend E.ty (H.push (.cells xs 33)) 29 29 (.slice (some ⟨b, 0, none⟩) len unk) (.slice (some ⟨H.next, 0, none⟩) 1 1) =
    some (.slice (some ⟨H.next + 1, 0, none⟩) (len + 1) unk, ((H.push (.cells xs 33)).set b none).push (.cells (cs ++ xs) 33)) := by
  have hx : (H.push (.cells xs 33)).load H.next 0 (1 * 8) = some xs := by
    simp only [AH.load, AH.get_push_same]
    rw [if_pos (by omega), List.drop_zero, List.take_of_length_le (by omega)]
  have hb' : (H.push (.cells xs 33)).get b = some (.cells cs 33) := by rw [AH.get_push_ne _ _ _ hn]; exact hb
  exact aAppend_own ty29 rfl ty33 (by decide) (by decide) (by decide) hx (by decide) hk hb' hl

theorem notes_length (ns : List NoteV) : (ns.flatMap NoteV.cells).length = ns.length * 8 := by
  induction ns with
  | nil => rfl
  | cons n l ih => simp only [List.flatMap_cons, List.length_append, NoteV.cells_length, ih, List.length_cons]; omega

theorem tail28 {H0 : AH} {nb count i : Nat} {v : Value} {acc : List NoteV} {r : RdV} {n : NoteV} {a : AAct} {H : AH} (K : Kont) (hal : acc.length ≤ 65536) (h : Nt H0 nb count i v acc r n a H)
    (hret : r.e ≠ 0 → ∀ a' H', a'.defers = [] → a'.tmps 2 = some (.pointer (some ⟨H0.next + 1, 0, none⟩)) → a'.tmps 3 = some (.slice none 0 0) →
      H'.get (H0.next + 1) = some (.cells [str r.s, .int .i64 r.pos, .int .i64 r.e] 45) → Keep H0 H' → app E (fnOf P) pur11 (plsOf plans 15) K .ret a' H')
    (hgo : r.e = 0 → ∀ a' H' v', Lp H0 count i v' (acc ++ [n]) r a' H' → app E (fnOf P) pur11 (plsOf plans 15) K .normal a' H') :
    WK E (fnOf P) pur11 (plsOf plans 15) tail15_28 K a H := by
  obtain ⟨⟨hn, hd, h1, h2, h5, h18, h19, hown, hB, ⟨c0, c1, c2, hC⟩, hnx, hK⟩, h6, hN, hlo, hhi, hob⟩ := h
  have hkk := hK.1
  by_cases he : r.e = 0
  · have he' : (r.e != 0) = false := by simp [he]
    have hgo := hgo he
    simp only [NoteV.cells] at hN
    have hbs := fun H => bs29 H (.int .u64 n.number) (.int .i64 n.bytes) (.int .i64 n.erased) (.int .i64 n.chunks) (.int .i64 n.empty) (.int .i64 n.found) (.int .i64 n.good) (.bool n.whole) rfl
    have m_0_1 : ¬ H0.next = H0.next + 1 := by omega
    have m_0_2 : ¬ H0.next = nb := by omega
    have m_0_3 : ¬ H0.next = H.next := by omega
    have m_0_4 : ¬ H0.next = H.next + 1 := by omega
    have m_1_0 : ¬ H0.next + 1 = H0.next := by omega
    have m_1_2 : ¬ H0.next + 1 = nb := by omega
    have m_1_3 : ¬ H0.next + 1 = H.next := by omega
    have m_1_4 : ¬ H0.next + 1 = H.next + 1 := by omega
    have m_2_0 : ¬ nb = H0.next := by omega
    have m_2_1 : ¬ nb = H0.next + 1 := by omega
    have m_2_3 : ¬ nb = H.next := by omega
    have m_2_4 : ¬ nb = H.next + 1 := by omega
    have m_3_0 : ¬ H.next = H0.next := by omega
    have m_3_1 : ¬ H.next = H0.next + 1 := by omega
    have m_3_2 : ¬ H.next = nb := by omega
    have m_3_4 : ¬ H.next = H.next + 1 := by omega
    have m_4_0 : ¬ H.next + 1 = H0.next := by omega
    have m_4_1 : ¬ H.next + 1 = H0.next + 1 := by omega
    have m_4_2 : ¬ H.next + 1 = nb := by omega
    have m_4_3 : ¬ H.next + 1 = H.next := by omega
    rcases hown with ⟨rfl, rfl⟩ | ⟨b, rfl, hb1, hb2, hb3⟩
    · have hap := ap29_nil H [.int .u64 n.number, .int .i64 n.bytes, .int .i64 n.erased, .int .i64 n.chunks, .int .i64 n.empty, .int .i64 n.found, .int .i64 n.good, .bool n.whole] rfl
      simp (maxDischargeDepth := 40) only [Nat.reduceEqDiff, Nat.reduceLT, Nat.reduceAdd, Nat.le_refl, WK_skip, WK_seq, WK_cond, WK_region, WLK_nil, WLK_cons, app_seq_normal, ne_eq, not_true_eq_false, List.take_succ_cons, List.drop_succ_cons, List.head?_cons, isAggD, aFieldAddr, aLoad, List.take_zero, List.drop_zero, List.length_cons, List.length_nil, Nat.zero_add, str_def, AH.load, Nat.succ_ne_self, want, dstOk, opR, opE, ev, evs, evParts, put_n, put_tmps, selfRel, aNilNil, nilC_tmp, nilC_int, opCallR, ↓bind_match, ↓map_match, ↓reduceIte, Bool.false_eq_true, decide_true, Bool.or_self, Bool.false_eq_true, true_and, List.getElem?_toArray, List.getElem?_cons_zero, List.getElem?_cons_succ, tail15_28, aBin_int, intBin, ty3, ty33, ty45, hn, h1, h5, h6, hB, hN, nat_bne0, he', hbs, hap]
      refine hgo _ _ (.slice (some ⟨H.next + 1, 0, none⟩) 1 unk) ⟨?_, ?_, ?_, ?_, ?_, ?_, ?_, ?_, ?_, ?_, ?_, ?_⟩
      · simp only [put_n, hn]
      · simp only [put_defers, hd]
      · simp (maxDischargeDepth := 40) only [Nat.reduceEqDiff, put_tmps, ↓reduceIte, h1]
      · simp (maxDischargeDepth := 40) only [Nat.reduceEqDiff, put_tmps, ↓reduceIte, h2]
      · simp (maxDischargeDepth := 40) only [put_tmps, ↓reduceIte]
      · simp (maxDischargeDepth := 40) only [Nat.reduceEqDiff, put_tmps, ↓reduceIte, h18]
      · simp (maxDischargeDepth := 40) only [Nat.reduceEqDiff, put_tmps, ↓reduceIte, h19]
      · refine .inr ⟨H.next + 1, rfl, by omega, by simp only [AH.next_push]; omega, ?_⟩
        simp (maxDischargeDepth := 40) only [List.cons_append, AH.get_push, AH.next_push, ↓reduceIte, List.cons_append, List.nil_append, NoteV.cells, List.flatMap_cons, List.flatMap_nil]
      · simp (maxDischargeDepth := 40) only [AH.get_push, AH.next_push, ↓reduceIte, m_0_3, m_0_4, hB]
      · exact ⟨c0, c1, c2, by simp (maxDischargeDepth := 40) only [AH.get_push, AH.next_push, ↓reduceIte, m_1_3, m_1_4, hC]⟩
      · simp only [AH.next_push]; omega
      · exact (hK.push _).push _
    · have hnb := hob b rfl
      have hap := ap29_own H [.int .u64 n.number, .int .i64 n.bytes, .int .i64 n.erased, .int .i64 n.chunks, .int .i64 n.empty, .int .i64 n.found, .int .i64 n.good, .bool n.whole] _ b acc.length rfl hb3 (by omega) (notes_length acc) (by omega)
      have p_0_1 : ¬ H0.next = H0.next + 1 := by omega
      have p_0_2 : ¬ H0.next = nb := by omega
      have p_0_3 : ¬ H0.next = H.next := by omega
      have p_0_4 : ¬ H0.next = H.next + 1 := by omega
      have p_0_5 : ¬ H0.next = b := by omega
      have p_1_0 : ¬ H0.next + 1 = H0.next := by omega
      have p_1_2 : ¬ H0.next + 1 = nb := by omega
      have p_1_3 : ¬ H0.next + 1 = H.next := by omega
      have p_1_4 : ¬ H0.next + 1 = H.next + 1 := by omega
      have p_1_5 : ¬ H0.next + 1 = b := by omega
      have p_2_0 : ¬ nb = H0.next := by omega
      have p_2_1 : ¬ nb = H0.next + 1 := by omega
      have p_2_3 : ¬ nb = H.next := by omega
      have p_2_4 : ¬ nb = H.next + 1 := by omega
      have p_2_5 : ¬ nb = b := by omega
      have p_3_0 : ¬ H.next = H0.next := by omega
      have p_3_1 : ¬ H.next = H0.next + 1 := by omega
      have p_3_2 : ¬ H.next = nb := by omega
      have p_3_4 : ¬ H.next = H.next + 1 := by omega
      have p_3_5 : ¬ H.next = b := by omega
      have p_4_0 : ¬ H.next + 1 = H0.next := by omega
      have p_4_1 : ¬ H.next + 1 = H0.next + 1 := by omega
      have p_4_2 : ¬ H.next + 1 = nb := by omega
      have p_4_3 : ¬ H.next + 1 = H.next := by omega
      have p_4_5 : ¬ H.next + 1 = b := by omega
      have p_5_0 : ¬ b = H0.next := by omega
      have p_5_1 : ¬ b = H0.next + 1 := by omega
      have p_5_2 : ¬ b = nb := by omega
      have p_5_3 : ¬ b = H.next := by omega
      have p_5_4 : ¬ b = H.next + 1 := by omega
      simp (maxDischargeDepth := 40) only [Nat.reduceEqDiff, Nat.reduceLT, Nat.reduceAdd, Nat.le_refl, WK_skip, WK_seq, WK_cond, WK_region, WLK_nil, WLK_cons, app_seq_normal, ne_eq, not_true_eq_false, List.take_succ_cons, List.drop_succ_cons, List.head?_cons, isAggD, aFieldAddr, aLoad, List.take_zero, List.drop_zero, List.length_cons, List.length_nil, Nat.zero_add, str_def, AH.load, Nat.succ_ne_self, want, dstOk, opR, opE, ev, evs, evParts, put_n, put_tmps, selfRel, aNilNil, nilC_tmp, nilC_int, opCallR, ↓bind_match, ↓map_match, ↓reduceIte, Bool.false_eq_true, decide_true, Bool.or_self, Bool.false_eq_true, true_and, List.getElem?_toArray, List.getElem?_cons_zero, List.getElem?_cons_succ, tail15_28, aBin_int, intBin, ty3, ty33, ty45, hn, h1, h5, h6, hB, hN, nat_bne0, he', hbs, hap]
      refine hgo _ _ (.slice (some ⟨H.next + 1, 0, none⟩) (acc.length + 1) unk) ⟨?_, ?_, ?_, ?_, ?_, ?_, ?_, ?_, ?_, ?_, ?_, ?_⟩
      · simp only [put_n, hn]
      · simp only [put_defers, hd]
      · simp (maxDischargeDepth := 40) only [Nat.reduceEqDiff, put_tmps, ↓reduceIte, h1]
      · simp (maxDischargeDepth := 40) only [Nat.reduceEqDiff, put_tmps, ↓reduceIte, h2]
      · simp (maxDischargeDepth := 40) only [put_tmps, ↓reduceIte]
      · simp (maxDischargeDepth := 40) only [Nat.reduceEqDiff, put_tmps, ↓reduceIte, h18]
      · simp (maxDischargeDepth := 40) only [Nat.reduceEqDiff, put_tmps, ↓reduceIte, h19]
      · refine .inr ⟨H.next + 1, by simp, by omega, by simp only [AH.next_push, AH.next_set]; omega, ?_⟩
        simp (maxDischargeDepth := 40) only [List.cons_append, AH.get_push, AH.next_push, AH.next_set, ↓reduceIte, List.cons_append, List.nil_append, NoteV.cells, List.flatMap_append, List.flatMap_cons, List.flatMap_nil]
      · simp (maxDischargeDepth := 40) only [AH.get_push, AH.get_set, AH.next_push, AH.next_set, ↓reduceIte, p_0_3, p_0_4, p_0_5, hB]
      · exact ⟨c0, c1, c2, by simp (maxDischargeDepth := 40) only [AH.get_push, AH.get_set, AH.next_push, AH.next_set, ↓reduceIte, p_1_3, p_1_4, p_1_5, hC]⟩
      · simp only [AH.next_push, AH.next_set]; omega
      · exact ((hK.push _).set _ _ (by omega)).push _
  · have he' : (r.e != 0) = true := by simp [he]
    have n_0_1 : ¬ H0.next = H0.next + 1 := by omega
    have n_1_0 : ¬ H0.next + 1 = H0.next := by omega
    simp (maxDischargeDepth := 40) only [Nat.reduceEqDiff, Nat.reduceLT, Nat.reduceAdd, Nat.le_refl, WK_ret, WK_seq, WK_cond, WK_region, WLK_nil, WLK_cons, app_seq_normal, app_seq_ret, ne_eq, not_true_eq_false, List.take_succ_cons, List.drop_succ_cons, List.head?_cons, isAggD, List.all_cons, List.all_nil, oc_int, oc_str, cells_agg, Bool.and_self, aFieldAddr, aLoad, aStore, List.cons_append, List.take_zero, List.drop_zero, List.length_cons, List.length_nil, Nat.zero_add, str_def, AH.load, AH.store, splice, Nat.succ_ne_self, want, dstOk, opR, opE, ev, put_n, put_tmps, put_none, selfRel, aNilNil, nilC_tmp, nilC_int, ↓bind_match, ↓map_match, ↓reduceIte, Bool.false_eq_true, decide_true, Bool.or_self, Bool.false_eq_true, true_and, and_true, List.toList_toArray, List.size_toArray, List.getElem?_toArray, List.getElem?_cons_zero, List.getElem?_cons_succ, List.cons_append, List.nil_append, tail15_28, aBin_int, intBin, ty3, ty45, hn, h1, h2, hB, hC, nat_bne0, he']
    refine hret he _ _ ?_ ?_ ?_ ?_ ?_
    · simp only [put_defers, hd]
    · simp (maxDischargeDepth := 40) only [Nat.reduceEqDiff, put_tmps, ↓reduceIte, h2]
    · simp (maxDischargeDepth := 40) only [put_tmps, ↓reduceIte]
    · simp (maxDischargeDepth := 40) only [AH.get_set, ↓reduceIte]
    · exact hK.set _ _ (by omega)

end Go.Am.Q

/- The document's notes, read: the walk, on. -/
set_option linter.unusedSimpArgs false
set_option linter.unusedSectionVars false
set_option maxRecDepth 20000
namespace Go.Am.Q
open Go Go.Am Go.Proofs
variable [F : Fr]

/-- The reader behind a note's last number. -/
def lastR (r : RdV) (n : NoteV) : RdV := if (fltR r).1.e = 0 ∧ textB (fltR r).2 ≠ n.health then failR (fltR r).1 4 else (fltR r).1

theorem nat_bne (a b : Nat) : ((a : Int) != (b : Int)) = (a != b) := by simp only [bne, nat_beq]
theorem nat_beq1 (a : Nat) : ((a : Int) == 1) = (a == 1) := nat_beq a 1

theorem tail23 {H0 : AH} {nb count i w : Nat} {v : Value} {acc : List NoteV} {r : RdV} {n0 n : NoteV} {a : AAct} {H : AH} (K : Kont) (hr : r.Ok) (hn0 : n.Ok)
    (hne : n = ⟨n0.number, n0.bytes, n0.erased, n0.chunks, n0.empty, n0.found, n0.good, w == 1⟩)
    (h : Nt H0 nb count i v acc r n0 a H) (h10 : a.tmps 10 = some (.int .u64 w))
    (next : ∀ a' H', Nt H0 nb count i v acc (lastR r n) n a' H' → WK E (fnOf P) pur11 (plsOf plans 15) tail15_28 K a' H') :
    WK E (fnOf P) pur11 (plsOf plans 15) tail15_23 K a H := by
  obtain ⟨⟨hn, hd, h1, h2, h5, h18, h19, hown, hB, ⟨c0, c1, c2, hC⟩, hnx, hK⟩, h6, hN, hlo, hhi, hob⟩ := h
  have hkk := hK.1
  have g1 := pur11_46 hr
  have g3 := pur11_42 hn0
  have g4 := pur11_41 n.health
  rw [n.health_text] at g4
  unfold lastR at next
  simp only [NoteV.cells] at hN
  generalize hh : n.health = hl at g3 g4 next
  have hNo : ∀ (K2 : AAct → AH → Prop), True := fun _ => trivial
  generalize hg : fltR r = g at g1 next
  obtain ⟨q, x⟩ := g
  have g2 := pur11_41 x
  have g5 := pur11_45 (r := q) (e := 4)
  have k4 : (((4 : Nat) : Int)) = 4 := rfl
  rw [k4] at g5
  simp only [RdV.val_eq] at g1 g5
  simp only [NoteV.val, NoteV.cells] at g3
  subst hne
  simp only at g3
  have l1 : H0.next ≤ H.next := hkk
  have l2 : H0.next ≤ nb := by omega
  have m_0_1 : ¬ H0.next = H0.next + 1 := by omega
  have m_0_2 : ¬ H0.next = nb := by omega
  have m_0_3 : ¬ H0.next = H.next := by omega
  have m_0_4 : ¬ H0.next = H.next + 1 := by omega
  have m_1_0 : ¬ H0.next + 1 = H0.next := by omega
  have m_1_2 : ¬ H0.next + 1 = nb := by omega
  have m_1_3 : ¬ H0.next + 1 = H.next := by omega
  have m_1_4 : ¬ H0.next + 1 = H.next + 1 := by omega
  have m_2_0 : ¬ nb = H0.next := by omega
  have m_2_1 : ¬ nb = H0.next + 1 := by omega
  have m_2_3 : ¬ nb = H.next := by omega
  have m_2_4 : ¬ nb = H.next + 1 := by omega
  have m_3_0 : ¬ H.next = H0.next := by omega
  have m_3_1 : ¬ H.next = H0.next + 1 := by omega
  have m_3_2 : ¬ H.next = nb := by omega
  have m_3_4 : ¬ H.next = H.next + 1 := by omega
  have m_4_0 : ¬ H.next + 1 = H0.next := by omega
  have m_4_1 : ¬ H.next + 1 = H0.next + 1 := by omega
  have m_4_2 : ¬ H.next + 1 = nb := by omega
  have m_4_3 : ¬ H.next + 1 = H.next := by omega
  have fin : ∀ (r' : RdV) (a' : AAct) (H' : AH), a'.n = 111 → a'.defers = [] → a'.tmps 1 = some (.pointer (some ⟨H0.next, 0, none⟩)) → a'.tmps 2 = some (.pointer (some ⟨H0.next + 1, 0, none⟩)) →
      a'.tmps 5 = some v → a'.tmps 18 = some (.int .u64 count) → a'.tmps 19 = some (.int .u64 i) → a'.tmps 6 = some (.pointer (some ⟨nb, 0, none⟩)) →
      H'.get H0.next = some (.cells [str r'.s, .int .i64 r'.pos, .int .i64 r'.e] 45) →
      H'.get nb = some (.cells [.int .u64 n0.number, .int .i64 n0.bytes, .int .i64 n0.erased, .int .i64 n0.chunks, .int .i64 n0.empty, .int .i64 n0.found, .int .i64 n0.good, .bool (w == 1)] 33) →
      H.next ≤ H'.next → (∀ b, b < H.next → b ≠ nb → b ≠ H0.next → H'.get b = H.get b) →
      Nt H0 nb count i v acc r' ⟨n0.number, n0.bytes, n0.erased, n0.chunks, n0.empty, n0.found, n0.good, w == 1⟩ a' H' := by
    intro r' a' H' e1 e2 e3 e4 e5 e6 e7 e8 e9 e10 e11 e12
    refine ⟨⟨e1, e2, e3, e4, e5, e6, e7, ?_, e9, ?_, by omega, ?_⟩, e8, e10, hlo, by omega, hob⟩
    · rcases hown with h | ⟨b, hv, hb1, hb2, hb3⟩
      · exact .inl h
      · exact .inr ⟨b, hv, hb1, by omega, by rw [e12 b hb2 (hob b hv) (by omega)]; exact hb3⟩
    · exact ⟨c0, c1, c2, by rw [e12 _ (by omega) (by omega) (by omega)]; exact hC⟩
    · exact ⟨by omega, fun b hb => by rw [e12 b (by omega) (by omega) (by omega)]; exact hK.2 b hb⟩
  have put0 : ∀ (P0 : Prop), True := fun _ => trivial
  by_cases he : q.e = 0
  · have he' : (q.e == 0) = true := by simp [he]
    by_cases hx : textB x = hl
    · have hx' : (textB x != hl) = false := by simp [hx]
      rw [if_neg (fun h => h.2 hx)] at next
      simp (maxDischargeDepth := 40) only [Nat.reduceEqDiff, Nat.reduceLT, Nat.reduceAdd, Nat.le_refl, WK_skip, WK_seq, WK_cond, WK_region, WK_draw, WLK_nil, WLK_cons, WPK_cons, app_seq_normal, WChks, WChk, evNewA, opRP, ne_eq, not_true_eq_false, List.take_succ_cons, List.drop_succ_cons, List.head?_cons, isAggD, List.all_cons, List.all_nil, oc_int, oc_bool, oc_str, cells_bool, cells_agg, Bool.and_self, aNew, aAlloc, aFieldAddr, aLoad, aStore, List.cons_append, List.take_zero, List.drop_zero, List.length_cons, List.length_nil, Nat.zero_add, str_def, AH.load, AH.store, splice, AH.get_push, AH.get_set, AH.next_set, Nat.succ_ne_self, want, dstOk, opR, opE, opC, ev, evs, put_n, put_tmps, put_none, selfRel, aNilNil, nilC_tmp, nilC_int, opCallR, ↓bind_match, ↓map_match, ↓reduceIte, Bool.false_eq_true, decide_true, Bool.or_self, beq_self_eq_true, Bool.false_eq_true, true_and, and_true, List.toList_toArray, List.size_toArray, List.getElem?_toArray, List.getElem?_cons_zero, List.getElem?_cons_succ, List.cons_append, List.nil_append, tail15_23, pl15_26, aBin_int, intBin, ty3, ty4, ty33, ty45, hn, h1, h6, h10, hB, hN, nat_beq1, fn46, ex46, fn41, ex41, fn42, ex42, g1, g2, g3, g4, aExtract, nat_beq0, he', nat_bne, hx', m_0_2, m_0_3, m_2_0, m_2_3]
      refine next _ _ (fin _ _ _ ?_ ?_ ?_ ?_ ?_ ?_ ?_ ?_ ?_ ?_ ?_ ?_)
      rotate_right
      · intro b b1 b2 b3
        have b4 : ¬ b = H.next := by omega
        simp (maxDischargeDepth := 40) only [AH.get_push, AH.get_set, AH.next_set, ↓reduceIte, b2, b3, b4]
      all_goals simp (maxDischargeDepth := 40) only [Nat.reduceEqDiff, Nat.le_add_right, AH.get_push, AH.get_set, AH.next_push, AH.next_set, put_n, put_tmps, put_defers, ↓reduceIte, hn, hd, h1, h2, h5, h6, h18, h19, m_2_0, m_2_3]
    · have hx' : (textB x != hl) = true := by simp [hx]
      rw [if_pos ⟨he, hx⟩] at next
      simp (maxDischargeDepth := 40) only [Nat.reduceEqDiff, Nat.reduceLT, Nat.reduceAdd, Nat.le_refl, WK_seq, WK_cond, WK_region, WK_draw, WLK_nil, WLK_cons, WPK_cons, app_seq_normal, WChks, WChk, evNewA, opRP, ne_eq, not_true_eq_false, List.take_succ_cons, List.drop_succ_cons, List.head?_cons, isAggD, List.all_cons, List.all_nil, oc_int, oc_bool, oc_str, cells_bool, cells_agg, Bool.and_self, aNew, aAlloc, aFieldAddr, aLoad, aStore, List.cons_append, List.take_zero, List.drop_zero, List.length_cons, List.length_nil, Nat.zero_add, str_def, AH.load, AH.store, splice, AH.get_push, AH.get_set, AH.next_set, Nat.succ_ne_self, want, dstOk, opR, opE, opC, ev, evs, put_n, put_tmps, put_none, selfRel, aNilNil, nilC_tmp, nilC_int, opCallR, ↓bind_match, ↓map_match, ↓reduceIte, Bool.false_eq_true, decide_true, Bool.or_self, beq_self_eq_true, Bool.false_eq_true, true_and, and_true, List.toList_toArray, List.size_toArray, List.getElem?_toArray, List.getElem?_cons_zero, List.getElem?_cons_succ, List.cons_append, List.nil_append, tail15_23, pl15_26, aBin_int, intBin, ty3, ty4, ty33, ty45, hn, h1, h6, h10, hB, hN, nat_beq1, fn46, ex46, fn41, ex41, fn42, ex42, fn45, ex45, g1, g2, g3, g4, g5, aExtract, nat_beq0, he', nat_bne, hx', m_0_2, m_0_3, m_2_0, m_2_3]
      refine next _ _ (fin _ _ _ ?_ ?_ ?_ ?_ ?_ ?_ ?_ ?_ ?_ ?_ ?_ ?_)
      rotate_right
      · intro b b1 b2 b3
        have b4 : ¬ b = H.next := by omega
        simp (maxDischargeDepth := 40) only [AH.get_push, AH.get_set, AH.next_set, ↓reduceIte, b2, b3, b4]
      all_goals simp (maxDischargeDepth := 40) only [Nat.reduceEqDiff, Nat.le_add_right, AH.get_push, AH.get_set, AH.next_push, AH.next_set, put_n, put_tmps, put_defers, ↓reduceIte, hn, hd, h1, h2, h5, h6, h18, h19, m_2_0, m_2_3]
  · have he' : (q.e == 0) = false := by simp [he]
    rw [if_neg (fun h => he h.1)] at next
    simp (maxDischargeDepth := 40) only [Nat.reduceEqDiff, Nat.reduceLT, Nat.reduceAdd, Nat.le_refl, WK_skip, WK_seq, WK_cond, WK_region, WK_draw, WLK_nil, WLK_cons, WPK_cons, app_seq_normal, WChks, WChk, evNewA, opRP, ne_eq, not_true_eq_false, List.take_succ_cons, List.drop_succ_cons, List.head?_cons, isAggD, List.all_cons, List.all_nil, oc_int, oc_bool, oc_str, cells_bool, cells_agg, Bool.and_self, aNew, aAlloc, aFieldAddr, aLoad, aStore, List.cons_append, List.take_zero, List.drop_zero, List.length_cons, List.length_nil, Nat.zero_add, str_def, AH.load, AH.store, splice, AH.get_push, AH.get_set, AH.next_set, Nat.succ_ne_self, want, dstOk, opR, opE, opC, ev, evs, put_n, put_tmps, put_none, selfRel, aNilNil, nilC_tmp, nilC_int, opCallR, ↓bind_match, ↓map_match, ↓reduceIte, Bool.false_eq_true, decide_true, Bool.or_self, beq_true, Bool.false_eq_true, true_and, and_true, List.toList_toArray, List.size_toArray, List.getElem?_toArray, List.getElem?_cons_zero, List.getElem?_cons_succ, List.cons_append, List.nil_append, tail15_23, pl15_26, aBin_int, intBin, ty3, ty4, ty33, ty45, hn, h1, h6, h10, hB, hN, nat_beq1, fn46, ex46, g1, aExtract, nat_beq0, he', m_0_2, m_0_3]
    refine next _ _ (fin _ _ _ ?_ ?_ ?_ ?_ ?_ ?_ ?_ ?_ ?_ ?_ ?_ ?_)
    rotate_right
    · intro b b1 b2 b3
      have b4 : ¬ b = H.next := by omega
      simp (maxDischargeDepth := 40) only [AH.get_push, AH.get_set, AH.next_set, ↓reduceIte, b2, b3, b4]
    all_goals simp (maxDischargeDepth := 40) only [Nat.reduceEqDiff, Nat.le_add_right, AH.get_push, AH.get_set, AH.next_push, AH.next_set, put_n, put_tmps, put_defers, ↓reduceIte, hn, hd, h1, h2, h5, h6, h18, h19, m_2_0, m_2_3]

/-- The numbers of a note, where they lie. -/
structure Nm (H0 : AH) (nb ab count i j : Nat) (v : Value) (acc : List NoteV) (r : RdV) (number : Nat) (l : List Nat) (a : AAct) (H : AH) : Prop where
  nt : Nt H0 nb count i v acc r ⟨number, 0, 0, 0, 0, 0, 0, false⟩ a H
  t7 : a.tmps 7 = some (.pointer (some ⟨ab, 0, none⟩))
  t28 : a.tmps 28 = some (.int .i64 j)
  hA : H.get ab = some (.cells (u64s l ++ List.replicate (6 - j) (Value.int .u64 0)) 100)
  hl : l.length = j
  lo : H0.next + 2 ≤ ab
  hi : ab < H.next
  ne : ab ≠ nb
  own : ∀ b, v = .slice (some ⟨b, 0, none⟩) acc.length unk → b ≠ ab

theorem conv_i64 {x : Nat} (h : x ≤ most40) : IntKind.i64.wrap (x : Int) = (x : Int) := by
  simp only [most40] at h
  exact wrap_i64 (by omega) (by omega)

set_option maxHeartbeats 4000000 in
theorem tail13 {H0 : AH} {nb ab count i : Nat} {v : Value} {acc : List NoteV} {r : RdV} {number : Nat} {l : List Nat} {a : AAct} {H : AH} (K : Kont) (hr : r.Ok) (hnum : number ≤ most40)
    (hls : ∀ x ∈ l, x ≤ most40) (h : Nm H0 nb ab count i 6 v acc r number l a H)
    (next : ∀ a' H', Nt H0 nb count i v acc (lastR (wholeR r) (noteOf number l (getR r 1).2)) (noteOf number l (getR r 1).2) a' H' → WK E (fnOf P) pur11 (plsOf plans 15) tail15_28 K a' H') :
    WK E (fnOf P) pur11 (plsOf plans 15) tail15_13 K a H := by
  obtain ⟨⟨⟨hn, hd, h1, h2, h5, h18, h19, hown, hB, ⟨c0, c1, c2, hC⟩, hnx, hK⟩, h6, hN, hlo, hhi, hob⟩, h7, h28, hA, hl, hal, hah, hane, hao⟩ := h
  have hkk := hK.1
  have g1 := pur11_44 hr (show 1 ≤ 8 by omega)
  have hno : (noteOf number l (getR r 1).2).Ok := noteOf_ok hnum hls
  have hwr := wholeR_ok hr
  unfold wholeR at next hwr
  generalize hg : getR r 1 = g at g1 next hno hwr
  obtain ⟨q, w⟩ := g
  have g5 := pur11_45 (r := q) (e := 4)
  have k4 : (((4 : Nat) : Int)) = 4 := rfl
  have k1 : (((1 : Nat) : Int)) = 1 := rfl
  rw [k4] at g5
  rw [k1] at g1
  simp only [RdV.val_eq] at g1 g5
  obtain ⟨x0, x1, x2, x3, x4, x5, rfl⟩ : ∃ x0 x1 x2 x3 x4 x5, l = [x0, x1, x2, x3, x4, x5] := by
    match l, hl with
    | [x0, x1, x2, x3, x4, x5], _ => exact ⟨_, _, _, _, _, _, rfl⟩
  have v0 := conv_i64 (hls x0 (by simp))
  have v1 := conv_i64 (hls x1 (by simp))
  have v2 := conv_i64 (hls x2 (by simp))
  have v3 := conv_i64 (hls x3 (by simp))
  have v4 := conv_i64 (hls x4 (by simp))
  have v5 := conv_i64 (hls x5 (by simp))
  have ia : ∀ k : Nat, k < 6 → aIndexAddr E.ty 100 (.pointer (some ⟨ab, 0, none⟩)) (.int .i64 (k : Int)) = some (.pointer (some ⟨ab, 0 + k * 1, none⟩)) := fun k hk => aIndexAddr_array ty100 rfl ty30 hk
  have i0 : aIndexAddr E.ty 100 (.pointer (some ⟨ab, 0, none⟩)) (.int .i64 0) = some (.pointer (some ⟨ab, 0, none⟩)) := ia 0 (by decide)
  have i1 : aIndexAddr E.ty 100 (.pointer (some ⟨ab, 0, none⟩)) (.int .i64 1) = some (.pointer (some ⟨ab, 1, none⟩)) := ia 1 (by decide)
  have i2 : aIndexAddr E.ty 100 (.pointer (some ⟨ab, 0, none⟩)) (.int .i64 2) = some (.pointer (some ⟨ab, 2, none⟩)) := ia 2 (by decide)
  have i3 : aIndexAddr E.ty 100 (.pointer (some ⟨ab, 0, none⟩)) (.int .i64 3) = some (.pointer (some ⟨ab, 3, none⟩)) := ia 3 (by decide)
  have i4 : aIndexAddr E.ty 100 (.pointer (some ⟨ab, 0, none⟩)) (.int .i64 4) = some (.pointer (some ⟨ab, 4, none⟩)) := ia 4 (by decide)
  have i5 : aIndexAddr E.ty 100 (.pointer (some ⟨ab, 0, none⟩)) (.int .i64 5) = some (.pointer (some ⟨ab, 5, none⟩)) := ia 5 (by decide)
  simp only [u64s, List.map_cons, List.map_nil, Nat.sub_self, List.replicate_zero, List.append_nil] at hA
  simp only [NoteV.cells] at hN
  have m_0_1 : ¬ H0.next = H0.next + 1 := by omega
  have m_0_2 : ¬ H0.next = nb := by omega
  have m_0_3 : ¬ H0.next = ab := by omega
  have m_0_4 : ¬ H0.next = H.next := by omega
  have m_1_0 : ¬ H0.next + 1 = H0.next := by omega
  have m_1_2 : ¬ H0.next + 1 = nb := by omega
  have m_1_3 : ¬ H0.next + 1 = ab := by omega
  have m_1_4 : ¬ H0.next + 1 = H.next := by omega
  have m_2_0 : ¬ nb = H0.next := by omega
  have m_2_1 : ¬ nb = H0.next + 1 := by omega
  have m_2_3 : ¬ nb = ab := by omega
  have m_2_4 : ¬ nb = H.next := by omega
  have m_3_0 : ¬ ab = H0.next := by omega
  have m_3_1 : ¬ ab = H0.next + 1 := by omega
  have m_3_2 : ¬ ab = nb := by omega
  have m_3_4 : ¬ ab = H.next := by omega
  have m_4_0 : ¬ H.next = H0.next := by omega
  have m_4_1 : ¬ H.next = H0.next + 1 := by omega
  have m_4_2 : ¬ H.next = nb := by omega
  have m_4_3 : ¬ H.next = ab := by omega
  have fin : ∀ (r' : RdV) (a' : AAct) (H' : AH), r'.Ok → (r' = if q.e = 0 ∧ 1 < w then failR q 4 else q) → a'.tmps 10 = some (.int .u64 w) → a'.n = 111 → a'.defers = [] → a'.tmps 1 = some (.pointer (some ⟨H0.next, 0, none⟩)) → a'.tmps 2 = some (.pointer (some ⟨H0.next + 1, 0, none⟩)) →
      a'.tmps 5 = some v → a'.tmps 18 = some (.int .u64 count) → a'.tmps 19 = some (.int .u64 i) → a'.tmps 6 = some (.pointer (some ⟨nb, 0, none⟩)) →
      H'.get H0.next = some (.cells [str r'.s, .int .i64 r'.pos, .int .i64 r'.e] 45) →
      H'.get nb = some (.cells [.int .u64 number, .int .i64 x0, .int .i64 x1, .int .i64 x2, .int .i64 x3, .int .i64 x4, .int .i64 x5, .bool false] 33) →
      H.next ≤ H'.next → (∀ b, b < H.next → b ≠ nb → b ≠ H0.next → H'.get b = H.get b) →
      WK E (fnOf P) pur11 (plsOf plans 15) tail15_23 K a' H' := by
    intro r' a' H' hr' er e0 e1 e2 e3 e4 e5 e6 e7 e8 e9 e10 e11 e12
    refine tail23 (n0 := ⟨number, x0, x1, x2, x3, x4, x5, false⟩) (n := noteOf number [x0, x1, x2, x3, x4, x5] w) K hr' hno rfl
      ⟨⟨e1, e2, e3, e4, e5, e6, e7, ?_, e9, ?_, by omega, ?_⟩, e8, e10, hlo, by omega, hob⟩ e0 ?_
    · rcases hown with h | ⟨b, hv, hb1, hb2, hb3⟩
      · exact .inl h
      · exact .inr ⟨b, hv, hb1, by omega, by rw [e12 b hb2 (hob b hv) (by omega)]; exact hb3⟩
    · exact ⟨c0, c1, c2, by rw [e12 _ (by omega) (by omega) (by omega)]; exact hC⟩
    · exact ⟨by omega, fun b hb => by rw [e12 b (by omega) (by omega) (by omega)]; exact hK.2 b hb⟩
    · rw [er]; exact next
  by_cases he : q.e = 0
  · have he' : (q.e == 0) = true := by simp [he]
    by_cases hw : 1 < w
    · have hw' : decide ((w : Int) > 1) = true := by simp; omega
      have hc : q.e = 0 ∧ 1 < w := ⟨he, hw⟩
      have hwr' : (failR q 4).Ok := by rw [if_pos hc] at hwr; exact hwr
      simp (maxDischargeDepth := 40) only [Nat.reduceEqDiff, Nat.reduceLT, Nat.reduceLeDiff, Nat.reduceAdd, Nat.reduceLeDiff,  WK_seq, WK_region, WLK_nil, WLK_cons, app_seq_normal, List.take_succ_cons, List.drop_succ_cons, List.head?_cons, isAggD, List.all_cons, List.all_nil, oc_int, cells_int, Bool.and_self, aFieldAddr, aLoad, aStore, List.cons_append, List.take_zero, List.drop_zero, List.length_cons, List.length_nil, Nat.zero_add, aConvert, AH.load, AH.store, splice, AH.get_set, Nat.succ_ne_self, want, dstOk, opR, opE, ev, put_n, put_tmps, put_none, selfRel, ↓bind_match, ↓map_match, ↓reduceIte, Bool.false_eq_true, decide_true, Bool.false_eq_true, true_and, and_true, List.toList_toArray, List.size_toArray, List.getElem?_toArray, List.getElem?_cons_zero, List.getElem?_cons_succ, List.cons_append, List.nil_append, tail15_13, ty3, ty30, ty33, hn, h6, h7, hA, hN, i0, i1, i2, v0, v1, v2, AH.set_set, m_3_2]
      simp (maxDischargeDepth := 40) only [Nat.reduceEqDiff, Nat.reduceLT, Nat.reduceLeDiff, Nat.reduceAdd, Nat.le_refl, Nat.reduceLeDiff,  WK_seq, WK_region, WLK_nil, WLK_cons, app_seq_normal, List.take_succ_cons, List.drop_succ_cons, List.head?_cons, isAggD, List.all_cons, List.all_nil, oc_int, cells_int, Bool.and_self, aFieldAddr, aLoad, aStore, List.cons_append, List.take_zero, List.drop_zero, List.length_cons, List.length_nil, Nat.zero_add, aConvert, AH.load, AH.store, splice, AH.get_set, Nat.succ_ne_self, want, dstOk, opR, opE, ev, put_n, put_tmps, put_none, selfRel, ↓bind_match, ↓map_match, ↓reduceIte, Bool.false_eq_true, decide_true, Bool.false_eq_true, true_and, and_true, List.toList_toArray, List.size_toArray, List.getElem?_toArray, List.getElem?_cons_zero, List.getElem?_cons_succ, List.cons_append, List.nil_append, tail15_16, ty3, ty30, ty33, hn, h6, h7, hA, i3, i4, i5, v3, v4, v5, AH.set_set, m_3_2]
      simp (maxDischargeDepth := 40) only [Nat.reduceEqDiff, Nat.reduceLT, Nat.reduceAdd, Nat.le_refl, WK_seq, WK_cond, WK_region, WLK_nil, WLK_cons, app_seq_normal, ne_eq, not_true_eq_false, List.take_succ_cons, List.drop_succ_cons, List.head?_cons, isAggD, List.all_cons, List.all_nil, oc_int, oc_str, cells_agg, Bool.and_self, aNew, aAlloc, aFieldAddr, aLoad, aStore, List.cons_append, List.take_zero, List.drop_zero, List.length_cons, List.length_nil, Nat.zero_add, str_def, AH.load, AH.store, splice, AH.get_push, AH.get_set, AH.next_set, Nat.succ_ne_self, want, dstOk, opR, opE, opC, ev, evs, put_n, put_tmps, put_none, selfRel, aNilNil, nilC_tmp, nilC_int, opCallR, ↓bind_match, ↓map_match, ↓reduceIte, Bool.false_eq_true, decide_true, Bool.or_self, beq_self_eq_true, Bool.false_eq_true, true_and, and_true, List.toList_toArray, List.size_toArray, List.getElem?_toArray, List.getElem?_cons_zero, List.getElem?_cons_succ, List.cons_append, List.nil_append, tail15_19, ty3, ty45, aBin_int, intBin, hn, h1, hB, fn44, ex44, fn45, ex45, g1, g5, aExtract, nat_beq0, AH.set_set, m_0_2, m_0_4, he', hw']
      refine fin (failR q 4) _ _ hwr' (by rw [if_pos hc]) ?_ ?_ ?_ ?_ ?_ ?_ ?_ ?_ ?_ ?_ ?_ ?_ ?_
      rotate_right
      · intro b b1 b2 b3
        have b4 : ¬ b = H.next := by omega
        simp (maxDischargeDepth := 40) only [AH.get_push, AH.get_set, AH.next_set, ↓reduceIte, b2, b3, b4]
      all_goals simp (maxDischargeDepth := 40) only [Nat.reduceEqDiff, Nat.le_add_right, AH.get_push, AH.get_set, AH.next_push, AH.next_set, put_n, put_tmps, put_defers, ↓reduceIte, hn, hd, h1, h2, h5, h6, h18, h19, m_2_0, m_2_4]
    · have hw' : decide ((w : Int) > 1) = false := by simp; omega
      have hc : ¬ (q.e = 0 ∧ 1 < w) := fun h => hw h.2
      have hwr' : q.Ok := by rw [if_neg hc] at hwr; exact hwr
      simp (maxDischargeDepth := 40) only [Nat.reduceEqDiff, Nat.reduceLT, Nat.reduceLeDiff, Nat.reduceAdd, Nat.reduceLeDiff,  WK_seq, WK_region, WLK_nil, WLK_cons, app_seq_normal, List.take_succ_cons, List.drop_succ_cons, List.head?_cons, isAggD, List.all_cons, List.all_nil, oc_int, cells_int, Bool.and_self, aFieldAddr, aLoad, aStore, List.cons_append, List.take_zero, List.drop_zero, List.length_cons, List.length_nil, Nat.zero_add, aConvert, AH.load, AH.store, splice, AH.get_set, Nat.succ_ne_self, want, dstOk, opR, opE, ev, put_n, put_tmps, put_none, selfRel, ↓bind_match, ↓map_match, ↓reduceIte, Bool.false_eq_true, decide_true, Bool.false_eq_true, true_and, and_true, List.toList_toArray, List.size_toArray, List.getElem?_toArray, List.getElem?_cons_zero, List.getElem?_cons_succ, List.cons_append, List.nil_append, tail15_13, ty3, ty30, ty33, hn, h6, h7, hA, hN, i0, i1, i2, v0, v1, v2, AH.set_set, m_3_2]
      simp (maxDischargeDepth := 40) only [Nat.reduceEqDiff, Nat.reduceLT, Nat.reduceLeDiff, Nat.reduceAdd, Nat.le_refl, Nat.reduceLeDiff,  WK_seq, WK_region, WLK_nil, WLK_cons, app_seq_normal, List.take_succ_cons, List.drop_succ_cons, List.head?_cons, isAggD, List.all_cons, List.all_nil, oc_int, cells_int, Bool.and_self, aFieldAddr, aLoad, aStore, List.cons_append, List.take_zero, List.drop_zero, List.length_cons, List.length_nil, Nat.zero_add, aConvert, AH.load, AH.store, splice, AH.get_set, Nat.succ_ne_self, want, dstOk, opR, opE, ev, put_n, put_tmps, put_none, selfRel, ↓bind_match, ↓map_match, ↓reduceIte, Bool.false_eq_true, decide_true, Bool.false_eq_true, true_and, and_true, List.toList_toArray, List.size_toArray, List.getElem?_toArray, List.getElem?_cons_zero, List.getElem?_cons_succ, List.cons_append, List.nil_append, tail15_16, ty3, ty30, ty33, hn, h6, h7, hA, i3, i4, i5, v3, v4, v5, AH.set_set, m_3_2]
      simp (maxDischargeDepth := 40) only [Nat.reduceEqDiff, Nat.reduceLT, Nat.reduceAdd, Nat.le_refl, WK_skip, WK_seq, WK_cond, WK_region, WLK_nil, WLK_cons, app_seq_normal, ne_eq, not_true_eq_false, List.take_succ_cons, List.drop_succ_cons, List.head?_cons, isAggD, List.all_cons, List.all_nil, oc_int, oc_str, cells_agg, Bool.and_self, aNew, aAlloc, aFieldAddr, aLoad, aStore, List.cons_append, List.take_zero, List.drop_zero, List.length_cons, List.length_nil, Nat.zero_add, str_def, AH.load, AH.store, splice, AH.get_push, AH.get_set, AH.next_set, Nat.succ_ne_self, want, dstOk, opR, opE, opC, ev, evs, put_n, put_tmps, put_none, selfRel, aNilNil, nilC_tmp, nilC_int, opCallR, ↓bind_match, ↓map_match, ↓reduceIte, Bool.false_eq_true, decide_true, Bool.or_self, beq_self_eq_true, Bool.false_eq_true, true_and, and_true, List.toList_toArray, List.size_toArray, List.getElem?_toArray, List.getElem?_cons_zero, List.getElem?_cons_succ, List.cons_append, List.nil_append, tail15_19, ty3, ty45, aBin_int, intBin, hn, h1, hB, fn44, ex44, g1, aExtract, nat_beq0, m_0_2, m_0_4, he', hw']
      refine fin q _ _ hwr' (by rw [if_neg hc]) ?_ ?_ ?_ ?_ ?_ ?_ ?_ ?_ ?_ ?_ ?_ ?_ ?_
      rotate_right
      · intro b b1 b2 b3
        have b4 : ¬ b = H.next := by omega
        simp (maxDischargeDepth := 40) only [AH.get_push, AH.get_set, AH.next_set, ↓reduceIte, b2, b3, b4]
      all_goals simp (maxDischargeDepth := 40) only [Nat.reduceEqDiff, Nat.le_add_right, AH.get_push, AH.get_set, AH.next_push, AH.next_set, put_n, put_tmps, put_defers, ↓reduceIte, hn, hd, h1, h2, h5, h6, h18, h19, m_2_0, m_2_4]
  · have he' : (q.e == 0) = false := by simp [he]
    have hc : ¬ (q.e = 0 ∧ 1 < w) := fun h => he h.1
    have hwr' : q.Ok := by rw [if_neg hc] at hwr; exact hwr
    simp (maxDischargeDepth := 40) only [Nat.reduceEqDiff, Nat.reduceLT, Nat.reduceLeDiff, Nat.reduceAdd, Nat.reduceLeDiff,  WK_seq, WK_region, WLK_nil, WLK_cons, app_seq_normal, List.take_succ_cons, List.drop_succ_cons, List.head?_cons, isAggD, List.all_cons, List.all_nil, oc_int, cells_int, Bool.and_self, aFieldAddr, aLoad, aStore, List.cons_append, List.take_zero, List.drop_zero, List.length_cons, List.length_nil, Nat.zero_add, aConvert, AH.load, AH.store, splice, AH.get_set, Nat.succ_ne_self, want, dstOk, opR, opE, ev, put_n, put_tmps, put_none, selfRel, ↓bind_match, ↓map_match, ↓reduceIte, Bool.false_eq_true, decide_true, Bool.false_eq_true, true_and, and_true, List.toList_toArray, List.size_toArray, List.getElem?_toArray, List.getElem?_cons_zero, List.getElem?_cons_succ, List.cons_append, List.nil_append, tail15_13, ty3, ty30, ty33, hn, h6, h7, hA, hN, i0, i1, i2, v0, v1, v2, AH.set_set, m_3_2]
    simp (maxDischargeDepth := 40) only [Nat.reduceEqDiff, Nat.reduceLT, Nat.reduceLeDiff, Nat.reduceAdd, Nat.le_refl, Nat.reduceLeDiff,  WK_seq, WK_region, WLK_nil, WLK_cons, app_seq_normal, List.take_succ_cons, List.drop_succ_cons, List.head?_cons, isAggD, List.all_cons, List.all_nil, oc_int, cells_int, Bool.and_self, aFieldAddr, aLoad, aStore, List.cons_append, List.take_zero, List.drop_zero, List.length_cons, List.length_nil, Nat.zero_add, aConvert, AH.load, AH.store, splice, AH.get_set, Nat.succ_ne_self, want, dstOk, opR, opE, ev, put_n, put_tmps, put_none, selfRel, ↓bind_match, ↓map_match, ↓reduceIte, Bool.false_eq_true, decide_true, Bool.false_eq_true, true_and, and_true, List.toList_toArray, List.size_toArray, List.getElem?_toArray, List.getElem?_cons_zero, List.getElem?_cons_succ, List.cons_append, List.nil_append, tail15_16, ty3, ty30, ty33, hn, h6, h7, hA, i3, i4, i5, v3, v4, v5, AH.set_set, m_3_2]
    simp (maxDischargeDepth := 40) only [Nat.reduceEqDiff, Nat.reduceLT, Nat.reduceAdd, Nat.le_refl, WK_skip, WK_seq, WK_cond, WK_region, WLK_nil, WLK_cons, app_seq_normal, ne_eq, not_true_eq_false, List.take_succ_cons, List.drop_succ_cons, List.head?_cons, isAggD, List.all_cons, List.all_nil, oc_int, oc_str, cells_agg, Bool.and_self, aNew, aAlloc, aFieldAddr, aLoad, aStore, List.cons_append, List.take_zero, List.drop_zero, List.length_cons, List.length_nil, Nat.zero_add, str_def, AH.load, AH.store, splice, AH.get_push, AH.get_set, AH.next_set, Nat.succ_ne_self, want, dstOk, opR, opE, opC, ev, evs, put_n, put_tmps, put_none, selfRel, aNilNil, nilC_tmp, nilC_int, opCallR, ↓bind_match, ↓map_match, ↓reduceIte, Bool.false_eq_true, decide_true, Bool.or_self, beq_true, Bool.false_eq_true, true_and, and_true, List.toList_toArray, List.size_toArray, List.getElem?_toArray, List.getElem?_cons_zero, List.getElem?_cons_succ, List.cons_append, List.nil_append, tail15_19, ty3, ty45, aBin_int, intBin, hn, h1, hB, fn44, ex44, g1, aExtract, nat_beq0, m_0_2, m_0_4, he']
    refine fin q _ _ hwr' (by rw [if_neg hc]) ?_ ?_ ?_ ?_ ?_ ?_ ?_ ?_ ?_ ?_ ?_ ?_ ?_
    rotate_right
    · intro b b1 b2 b3
      have b4 : ¬ b = H.next := by omega
      simp (maxDischargeDepth := 40) only [AH.get_push, AH.get_set, AH.next_set, ↓reduceIte, b2, b3, b4]
    all_goals simp (maxDischargeDepth := 40) only [Nat.reduceEqDiff, Nat.le_add_right, AH.get_push, AH.get_set, AH.next_push, AH.next_set, put_n, put_tmps, put_defers, ↓reduceIte, hn, hd, h1, h2, h5, h6, h18, h19, m_2_0, m_2_4]

end Go.Am.Q

/- The document's notes, read: the walk, its end. -/
set_option linter.unusedSimpArgs false
set_option linter.unusedSectionVars false
set_option maxRecDepth 20000
namespace Go.Am.Q
open Go Go.Am Go.Proofs
variable [F : Fr]

theorem numsLen {l : List Nat} {j : Nat} (h : l.length = j) (hj : j ≤ 6) : (u64s l ++ List.replicate (6 - j) (Value.int .u64 0)).length = 6 := by
  simp only [List.length_append, u64s_length, List.length_replicate]
  omega

theorem body0 {H0 : AH} {nb ab count i j : Nat} {v : Value} {acc : List NoteV} {r q : RdV} {number x : Nat} {l : List Nat} {a : AAct} {H : AH} (K : Kont) (hr : r.Ok) (hj : j ≤ 6)
    (hq : numberR r most40 = (q, x)) (h : Nm H0 nb ab count i j v acc r number l a H)
    (go : j < 6 → ∀ a' H', Nm H0 nb ab count i (j + 1) v acc q number (l ++ [x]) a' H' → app E (fnOf P) pur11 (plsOf plans 15) K .normal a' H')
    (out : j = 6 → ∀ a' H', Nm H0 nb ab count i 6 v acc r number l a' H' → app E (fnOf P) pur11 (plsOf plans 15) K (.exit 2) a' H') :
    WK E (fnOf P) pur11 (plsOf plans 15) body15_0 K a H := by
  obtain ⟨⟨⟨hn, hd, h1, h2, h5, h18, h19, hown, hB, ⟨c0, c1, c2, hC⟩, hnx, hK⟩, h6, hN, hlo, hhi, hob⟩, h7, h28, hA, hl, hal, hah, hane, hao⟩ := h
  have hkk := hK.1
  by_cases hj6 : j < 6
  · have d0 : decide ((j : Int) < 6) = true := by simp; omega
    have go := go hj6
    have g1 := pur11_43 (m := most40) hr
    rw [hq] at g1
    have kk : ((most40 : Nat) : Int) = 1099511627776 := rfl
    rw [kk] at g1
    simp only [RdV.val_eq] at g1
    have ia : aIndexAddr E.ty 100 (.pointer (some ⟨ab, 0, none⟩)) (.int .i64 (j : Int)) = some (.pointer (some ⟨ab, 0 + j * 1, none⟩)) := aIndexAddr_array ty100 rfl ty30 hj6
    have hlen := numsLen hl hj
    have hset := u64s_set hl hj6 x
    have d1 : (j + 1 ≤ 6) = True := by simp; omega
    have f3 : IntKind.i64.wrap ((j : Int) + 1) = ((j + 1 : Nat) : Int) := by rw [wrap_i64 (by omega) (by omega)]; simp
    have hb : ∀ b ∈ u64s (l ++ [x]) ++ List.replicate (6 - (j + 1)) (Value.int .u64 0), b.oneCell' = true := by
      intro b hb
      simp only [List.mem_append, u64s, List.mem_map, List.mem_replicate] at hb
      rcases hb with ⟨y, _, rfl⟩ | ⟨_, rfl⟩ <;> rfl
    have m_0_1 : ¬ H0.next = H0.next + 1 := by omega
    have m_0_2 : ¬ H0.next = nb := by omega
    have m_0_3 : ¬ H0.next = ab := by omega
    have m_1_0 : ¬ H0.next + 1 = H0.next := by omega
    have m_1_2 : ¬ H0.next + 1 = nb := by omega
    have m_1_3 : ¬ H0.next + 1 = ab := by omega
    have m_2_0 : ¬ nb = H0.next := by omega
    have m_2_1 : ¬ nb = H0.next + 1 := by omega
    have m_2_3 : ¬ nb = ab := by omega
    have m_3_0 : ¬ ab = H0.next := by omega
    have m_3_1 : ¬ ab = H0.next + 1 := by omega
    have m_3_2 : ¬ ab = nb := by omega
    simp (maxDischargeDepth := 40) only [Nat.reduceEqDiff, Nat.reduceLT, Nat.reduceAdd, Nat.le_refl, WK_skip, WK_seq, WK_cond, WK_block, WK_region, WLK_nil, WLK_cons, app_seq_normal, app_block_normal, ne_eq, not_true_eq_false, List.take_succ_cons, List.drop_succ_cons, isAggD, List.all_cons, List.all_nil, oc_int, oc_str, cells_int, cells_agg, Bool.and_self, aLoad, aStore, List.cons_append, List.take_zero, List.drop_zero, List.length_cons, List.length_nil, Nat.zero_add, str_def, AH.load, AH.store, splice, AH.get_set, Nat.succ_ne_self, want, dstOk, opR, opE, opC, ev, evs, put_n, put_tmps, put_none, selfRel, aNilNil, nilC_tmp, nilC_int, opCallR, ↓bind_match, ↓map_match, ↓reduceIte, Bool.false_eq_true, decide_true, Bool.or_self, Bool.false_eq_true, true_and, and_true, List.toList_toArray, List.size_toArray, List.getElem?_toArray, List.getElem?_cons_zero, List.getElem?_cons_succ, List.cons_append, List.nil_append, body15_0, aBin_int, intBin, ty30, ty45, hn, h1, h7, h28, hA, hB, fn43, ex43, g1, aExtract, d0, d1, ia, hlen, hset, f3, Nat.mul_one, m_3_0]
    refine go _ _ ⟨⟨⟨?_, ?_, ?_, ?_, ?_, ?_, ?_, ?_, ?_, ?_, ?_, ?_⟩, ?_, ?_, hlo, ?_, hob⟩, ?_, ?_, ?_, ?_, hal, ?_, hane, hao⟩
    · simp only [put_n, hn]
    · simp only [put_defers, hd]
    · simp (maxDischargeDepth := 40) only [Nat.reduceEqDiff, put_tmps, ↓reduceIte, h1]
    · simp (maxDischargeDepth := 40) only [Nat.reduceEqDiff, put_tmps, ↓reduceIte, h2]
    · simp (maxDischargeDepth := 40) only [Nat.reduceEqDiff, put_tmps, ↓reduceIte, h5]
    · simp (maxDischargeDepth := 40) only [Nat.reduceEqDiff, put_tmps, ↓reduceIte, h18]
    · simp (maxDischargeDepth := 40) only [Nat.reduceEqDiff, put_tmps, ↓reduceIte, h19]
    · rcases hown with h | ⟨b, hv, hb1, hb2, hb3⟩
      · exact .inl h
      · have n1 := hao b hv
        have n2 : ¬ b = H0.next := by omega
        refine .inr ⟨b, hv, hb1, by simp only [AH.next_set]; exact hb2, ?_⟩
        simp only [AH.get_set, n1, n2, if_false]; exact hb3
    · simp only [AH.get_set, m_0_3, if_false, if_true]
    · exact ⟨c0, c1, c2, by simp only [AH.get_set, m_1_0, m_1_3, if_false]; exact hC⟩
    · simp only [AH.next_set]; exact hnx
    · exact (hK.set _ _ (by omega)).set _ _ (by omega)
    · simp (maxDischargeDepth := 40) only [Nat.reduceEqDiff, put_tmps, ↓reduceIte, h6]
    · simp only [AH.get_set, m_2_0, m_2_3, if_false]; exact hN
    · simp only [AH.next_set]; exact hhi
    · simp (maxDischargeDepth := 40) only [Nat.reduceEqDiff, put_tmps, ↓reduceIte, h7]
    · simp (maxDischargeDepth := 40) only [put_tmps, ↓reduceIte]
    · simp only [AH.get_set, m_3_0, if_false, if_true]
    · simp [hl]
    · simp only [AH.next_set]; exact hah
  · have d0 : decide ((j : Int) < 6) = false := by simp; omega
    have hj6' : j = 6 := by omega
    subst hj6'
    have out := out rfl
    simp (maxDischargeDepth := 40) only [Nat.reduceLT, WK_exit, WK_seq, WK_cond, WK_region, WLK_nil, WLK_cons, app_seq_normal, app_seq_exit, ne_eq, not_true_eq_false, want, dstOk, opR, ev, put_tmps, selfRel, aNilNil, nilC_tmp, nilC_int, ↓bind_match, ↓reduceIte, Bool.false_eq_true, decide_true, Bool.or_self, Bool.false_eq_true, true_and, body15_0, aBin_int, intBin, hn, h28, d0]
    refine out _ _ ⟨⟨⟨?_, ?_, ?_, ?_, ?_, ?_, ?_, hown, hB, ⟨c0, c1, c2, hC⟩, hnx, hK⟩, ?_, hN, hlo, hhi, hob⟩, ?_, ?_, hA, hl, hal, hah, hane, hao⟩
    · simp only [put_n, hn]
    · simp only [put_defers, hd]
    all_goals simp (maxDischargeDepth := 40) only [Nat.reduceEqDiff, put_tmps, ↓reduceIte, h1, h2, h5, h18, h19, h6, h7, h28]

theorem noteR_eq (r : RdV) : noteR r = (lastR (wholeR (numsP 6 (numberR r most40).1).1) (noteR r).2, (noteR r).2) := rfl

set_option maxHeartbeats 1000000 in
theorem body1 {H0 : AH} {count i : Nat} {v : Value} {acc : List NoteV} {r : RdV} {a : AAct} {H : AH} (K : Kont) (hr : r.Ok) (hal : acc.length ≤ 65536) (hc : count ≤ 65536)
    (h : Lp H0 count i v acc r a H)
    (hret : i < count → (noteR r).1.e ≠ 0 → ∀ a' H', a'.defers = [] → a'.tmps 2 = some (.pointer (some ⟨H0.next + 1, 0, none⟩)) → a'.tmps 3 = some (.slice none 0 0) →
      H'.get (H0.next + 1) = some (.cells [str (noteR r).1.s, .int .i64 (noteR r).1.pos, .int .i64 (noteR r).1.e] 45) → Keep H0 H' → app E (fnOf P) pur11 (plsOf plans 15) K .ret a' H')
    (hgo : i < count → (noteR r).1.e = 0 → ∀ a' H' v', Lp H0 count (i + 1) v' (acc ++ [(noteR r).2]) (noteR r).1 a' H' → app E (fnOf P) pur11 (plsOf plans 15) K .normal a' H')
    (hout : count ≤ i → ∀ a' H', Lp H0 count i v acc r a' H' → app E (fnOf P) pur11 (plsOf plans 15) K (.exit 0) a' H') :
    WK E (fnOf P) pur11 (plsOf plans 15) body15_1 K a H := by
  obtain ⟨hn, hd, h1, h2, h5, h18, h19, hown, hB, ⟨c0, c1, c2, hC⟩, hnx, hK⟩ := h
  have hkk := hK.1
  by_cases hi : i < count
  · have d0 : decide ((i : Int) < (count : Int)) = true := by simp; omega
    have hret := hret hi
    have hgo := hgo hi
    have g1 := pur11_43 (m := most40) hr
    have hq := (numberR_ok hr most40).1
    have hnl : (numberR r most40).2 ≤ most40 := numberR_le _
    rw [noteR_eq] at hret hgo
    have hnt : (noteR r).2 = noteOf (numberR r most40).2 (numsP 6 (numberR r most40).1).2 (getR (numsP 6 (numberR r most40).1).1 1).2 := rfl
    rw [hnt] at hret hgo
    generalize hg : numberR r most40 = g at g1 hq hret hgo hnl
    obtain ⟨q, x⟩ := g
    simp only at hq hret hgo hnl
    have kk : ((most40 : Nat) : Int) = 1099511627776 := rfl
    rw [kk] at g1
    simp only [RdV.val_eq] at g1
    have f3 : IntKind.u64.wrap ((i : Int) + 1) = ((i + 1 : Nat) : Int) := by
      have : ((i : Int) + 1) = ((i + 1 : Nat) : Int) := by simp
      rw [this, wrap_u64, Nat.mod_eq_of_lt (by omega)]
    have m_0_1 : ¬ H0.next = H0.next + 1 := by omega
    have m_0_2 : ¬ H0.next = H.next := by omega
    have m_0_3 : ¬ H0.next = H.next + 1 := by omega
    have m_1_0 : ¬ H0.next + 1 = H0.next := by omega
    have m_1_2 : ¬ H0.next + 1 = H.next := by omega
    have m_1_3 : ¬ H0.next + 1 = H.next + 1 := by omega
    have m_2_0 : ¬ H.next = H0.next := by omega
    have m_2_1 : ¬ H.next = H0.next + 1 := by omega
    have m_2_3 : ¬ H.next = H.next + 1 := by omega
    have m_3_0 : ¬ H.next + 1 = H0.next := by omega
    have m_3_1 : ¬ H.next + 1 = H0.next + 1 := by omega
    have m_3_2 : ¬ H.next + 1 = H.next := by omega
    simp (maxDischargeDepth := 40) only [Nat.reduceEqDiff, Nat.reduceLT, Nat.reduceLeDiff, Nat.reduceAdd, Nat.le_refl, Nat.reduceLeDiff,  WK_skip, WK_seq, WK_cond, WK_block, WK_loop, WK_region, WLK_nil, WLK_cons, app_seq_normal, ne_eq, not_true_eq_false, List.take_succ_cons, List.drop_succ_cons, isAggD, List.all_cons, List.all_nil, oc_int, oc_bool, oc_str, cells_int, cells_agg, Bool.and_self, aNew, aAlloc, aFieldAddr, aLoad, aStore, List.cons_append, List.take_zero, List.drop_zero, List.length_cons, List.length_nil, Nat.zero_add, str_def, AH.load, AH.store, splice, AH.get_push, AH.get_set, AH.next_push, AH.next_set, Nat.succ_ne_self, want, dstOk, opR, opE, opC, ev, evs, evParts, put_n, put_tmps, put_none, selfRel, aNilNil, nilC_tmp, opCallR, ↓bind_match, ↓map_match, ↓reduceIte, Bool.false_eq_true, decide_true, Bool.or_self, Bool.false_eq_true, true_and, and_true, List.toList_toArray, List.size_toArray, List.getElem?_toArray, List.getElem?_cons_zero, List.getElem?_cons_succ, List.cons_append, List.nil_append, body15_1, aBin_int, intBin, ty30, ty33, ty45, ty100, b33, hn, h1, h18, h19, hB, fn43, ex43, g1, aExtract, d0, m_0_2, m_2_0]
    refine ⟨fun m a' H' => ∃ j, j + m = 6 ∧ Nm H0 H.next (H.next + 1) count i j v acc (numsP j q).1 x (numsP j q).2 a' H', 6, ⟨0, rfl, ⟨⟨?_, ?_, ?_, ?_, ?_, ?_, ?_, ?_, ?_, ?_, ?_, ?_⟩, ?_, ?_, ?_, ?_, ?_⟩, ?_, ?_, ?_, ?_, ?_, ?_, ?_, ?_⟩, ?_⟩
    · simp only [put_n, hn]
    · simp only [put_defers, hd]
    · simp (maxDischargeDepth := 40) only [Nat.reduceEqDiff, put_tmps, ↓reduceIte, h1]
    · simp (maxDischargeDepth := 40) only [Nat.reduceEqDiff, put_tmps, ↓reduceIte, h2]
    · simp (maxDischargeDepth := 40) only [Nat.reduceEqDiff, put_tmps, ↓reduceIte, h5]
    · simp (maxDischargeDepth := 40) only [Nat.reduceEqDiff, put_tmps, ↓reduceIte, h18]
    · simp (maxDischargeDepth := 40) only [Nat.reduceEqDiff, put_tmps, ↓reduceIte, h19]
    · rcases hown with h | ⟨b, hv, hb1, hb2, hb3⟩
      · exact .inl h
      · have := hb1
        have p_0_1 : ¬ b = H0.next := by omega
        have p_0_2 : ¬ b = H.next := by omega
        have p_0_3 : ¬ b = H.next + 1 := by omega
        have p_1_0 : ¬ H0.next = b := by omega
        have p_1_2 : ¬ H0.next = H.next := by omega
        have p_1_3 : ¬ H0.next = H.next + 1 := by omega
        have p_2_0 : ¬ H.next = b := by omega
        have p_2_1 : ¬ H.next = H0.next := by omega
        have p_2_3 : ¬ H.next = H.next + 1 := by omega
        have p_3_0 : ¬ H.next + 1 = b := by omega
        have p_3_1 : ¬ H.next + 1 = H0.next := by omega
        have p_3_2 : ¬ H.next + 1 = H.next := by omega
        refine .inr ⟨b, hv, hb1, by simp only [AH.next_set, AH.next_push]; omega, ?_⟩
        simp only [AH.get_set, AH.get_push, AH.next_set, AH.next_push, p_0_1, p_0_2, p_0_3, if_false]; exact hb3
    · simp (maxDischargeDepth := 40) only [AH.get_push, AH.get_set, AH.next_push, AH.next_set, ↓reduceIte, numsP, m_0_2, m_0_3]
    · exact ⟨c0, c1, c2, by simp only [AH.get_set, AH.get_push, AH.next_set, AH.next_push, m_1_0, m_1_2, m_1_3, if_false]; exact hC⟩
    · simp only [AH.next_set, AH.next_push]; omega
    · refine Keep.push (Keep.set (Keep.set (Keep.set (Keep.push hK _) _ _ ?_) _ _ ?_) _ _ ?_) _ <;> omega
    · simp (maxDischargeDepth := 40) only [Nat.reduceEqDiff, put_tmps, ↓reduceIte]
    · simp (maxDischargeDepth := 40) only [AH.get_push, AH.get_set, AH.next_push, AH.next_set, ↓reduceIte, NoteV.cells, m_2_3]
    · omega
    · simp only [AH.next_set, AH.next_push]; omega
    · intro b hv
      rcases hown with ⟨h, _⟩ | ⟨b', hv', hb1, hb2, hb3⟩
      · rw [h] at hv; cases hv
      · rw [hv] at hv'; cases hv'; omega
    · simp (maxDischargeDepth := 40) only [Nat.reduceEqDiff, put_tmps, ↓reduceIte]
    · simp (maxDischargeDepth := 40) only [Option.some.injEq, put_tmps, ↓reduceIte]
      rfl
    · simp (maxDischargeDepth := 40) only [Option.some.injEq, AH.get_push, AH.next_push, AH.next_set, ↓reduceIte]
      rfl
    · rfl
    · omega
    · simp only [AH.next_set, AH.next_push]; omega
    · omega
    · intro b hv
      rcases hown with ⟨h, _⟩ | ⟨b', hv', hb1, hb2, hb3⟩
      · rw [h] at hv; cases hv
      · rw [hv] at hv'; cases hv'; omega
    · rintro m a' H' ⟨j, hjm, hN⟩
      obtain ⟨hp1, hp2, hp3⟩ := numsP_ok hq j
      refine body0 _ hp1 (by omega) rfl hN (fun hj a2 H2 h2 => ?_) (fun hj a2 H2 h2 => ?_)
      · simp only [app_inv_normal]
        exact ⟨m - 1, by omega, j + 1, by omega, h2⟩
      · subst hj
        simp only [app_inv_exit, app_block_exit, if_true, app_seq_normal]
        refine tail13 _ hp1 hnl hp3 h2 fun a3 H3 h3 => ?_
        refine tail28 _ hal h3 (fun he a4 H4 e1 e2 e3 e4 e5 => ?_) (fun he a4 H4 v' h4 => ?_)
        · simp only [app_block_ret, app_seq_ret]
          exact hret he a4 H4 e1 e2 e3 e4 e5
        · obtain ⟨q0, q1, q2, q3, q4, q5, q6, q7, q8, q9, q10, q11⟩ := h4
          simp (maxDischargeDepth := 40) only [Nat.reduceLT, WK_region, WLK_nil, WLK_cons, app_seq_normal, app_block_normal, ne_eq, not_true_eq_false, want, dstOk, opR, ev, put_n, put_tmps, selfRel, aNilNil, nilC_tmp, nilC_int, ↓bind_match, ↓reduceIte, Bool.false_eq_true, decide_true, Bool.or_self, Bool.false_eq_true, true_and, aBin_int, intBin, q0, q6, f3]
          refine hgo he _ _ v' ⟨?_, ?_, ?_, ?_, ?_, ?_, ?_, q7, q8, q9, q10, q11⟩
          · simp only [put_n, q0]
          · simp only [put_defers, q1]
          all_goals simp (maxDischargeDepth := 40) only [Nat.reduceEqDiff, put_tmps, ↓reduceIte, q2, q3, q4, q5]
  · have d0 : decide ((i : Int) < (count : Int)) = false := by simp; omega
    have hout := hout (by omega)
    simp (maxDischargeDepth := 40) only [Nat.reduceLT, WK_exit, WK_seq, WK_cond, WK_region, WLK_nil, WLK_cons, app_seq_normal, app_seq_exit, ne_eq, not_true_eq_false, want, dstOk, opR, ev, put_tmps, aNilNil, nilC_tmp, ↓bind_match, ↓reduceIte, Bool.false_eq_true, decide_true, Bool.or_self, Bool.false_eq_true, true_and, body15_1, aBin_int, intBin, hn, h18, h19, d0]
    refine hout _ _ ⟨?_, ?_, ?_, ?_, ?_, ?_, ?_, hown, hB, ⟨c0, c1, c2, hC⟩, hnx, hK⟩
    · simp only [put_n, hn]
    · simp only [put_defers, hd]
    all_goals simp (maxDischargeDepth := 40) only [Nat.reduceEqDiff, put_tmps, ↓reduceIte, h1, h2, h5, h18, h19]

theorem getN_walk {H0 : AH} {r : RdV} (hr : r.Ok) :
    ACalls P 15 [r.val] H0 fun e H' => ∃ v, e = .returned (.tuple #[(getNR r).1.val, v]) ∧ NotesAt H' 33 v (getNR r).2 ∧ Keep H0 H' := by
  refine ACalls_K E (fnOf_ok P) mixed pur11_ok fn15 ok15 sx15 (by simp [nt15]) ?_
  simp only [nt15]
  have g1 := pur11_43 (m := 65536) hr
  have hq := (numberR_ok hr 65536).1
  have hnl : (numberR r 65536).2 ≤ 65536 := numberR_le _
  unfold getNR
  generalize hg : numberR r 65536 = g at g1 hq hnl
  obtain ⟨q, count⟩ := g
  simp only at hq hnl
  have kk : ((65536 : Nat) : Int) = 65536 := rfl
  rw [kk] at g1
  simp only [RdV.val_eq] at g1
  have m_0_1 : ¬ H0.next = H0.next + 1 := by omega
  have m_1_0 : ¬ H0.next + 1 = H0.next := by omega
  generalize hW : notesR count q [] = W
  simp (maxDischargeDepth := 40) only [Nat.reduceEqDiff, Nat.reduceLT, Nat.reduceAdd, Nat.le_refl, WK_seq, WK_block, WK_loop, WK_region, WLK_nil, WLK_cons, app_seq_normal, List.take_succ_cons, List.drop_succ_cons, isAggD, List.all_cons, List.all_nil, oc_int, oc_str, cells_agg, Bool.and_self, aBox, aNew, aAlloc, aLoad, aStore, List.cons_append, List.take_zero, List.drop_zero, List.length_cons, List.length_nil, Nat.zero_add, str_def, AH.load, AH.store, splice, AH.get_push, AH.next_push, want, dstOk, opR, opE, opC, ev, evs, entry, argT, put_n, put_tmps, put_none, selfRel, opCallR, ↓bind_match, ↓map_match, ↓reduceIte, decide_true, true_and, and_true, List.toList_toArray, List.size_toArray, List.getElem?_toArray, List.getElem?_cons_zero, List.getElem?_cons_succ, List.cons_append, List.nil_append, code15, ty45, RdV.val_eq, fn43, ex43, g1, aExtract, m_0_1]
  refine ⟨fun k a' H' => ∃ i v acc r', i + k = count ∧ r'.Ok ∧ acc.length = i ∧ notesR k r' acc = W ∧ Lp H0 count i v acc r' a' H', count,
    ⟨0, .slice none 0 0, [], q, by omega, hq, rfl, hW, ⟨?_, ?_, ?_, ?_, ?_, ?_, ?_, ?_, ?_, ?_, ?_, ?_⟩⟩, ?_⟩
  · rfl
  · rfl
  · simp (maxDischargeDepth := 40) only [Nat.reduceEqDiff, put_tmps, ↓reduceIte]
  · simp (maxDischargeDepth := 40) only [Nat.reduceEqDiff, put_tmps, ↓reduceIte]
  · simp (maxDischargeDepth := 40) only [Nat.reduceEqDiff, put_tmps, ↓reduceIte]
  · simp (maxDischargeDepth := 40) only [Nat.reduceEqDiff, put_tmps, ↓reduceIte]
  · simp (maxDischargeDepth := 40) only [Option.some.injEq, put_tmps, ↓reduceIte]
    rfl
  · exact .inl ⟨rfl, rfl⟩
  · simp (maxDischargeDepth := 40) only [AH.get_set, ↓reduceIte]
  · exact ⟨_, _, _, by simp only [AH.get_set, AH.get_push, AH.next_push, m_1_0, if_false, if_true]; rfl⟩
  · simp only [AH.next_set, AH.next_push]; omega
  · exact Keep.set (Keep.push (Keep.push (Keep.refl _) _) _) _ _ (by omega)
  · rintro k a' H' ⟨i, v, acc, r', hik, hr', hacc, hWW, hL⟩
    refine body1 _ hr' (by omega) hnl hL (fun hi he a2 H2 e1 e2 e3 e4 e5 => ?_) (fun hi he a2 H2 v2 h2 => ?_) (fun hi a2 H2 h2 => ?_)
    · cases k with
      | zero => omega
      | succ k =>
        rw [notesR, if_pos he] at hWW
        subst hWW
        simp (maxDischargeDepth := 40) only [Nat.reduceAdd, Nat.le_refl, app_fin, app_seq_ret, app_block_ret, app_inv_ret, List.take_succ_cons, isAggD, aLoad, List.take_zero, List.drop_zero, List.length_cons, List.length_nil, Nat.zero_add, Option.some.injEq, exists_eq_left', str_def, AH.load, ↓bind_match, ↓map_match, ↓reduceIte, true_and, and_true, ABody, aResults, aResult, tupleOf, rs15, ty45, e1, e2, e3, e4, e5]
        exact ⟨_, rfl, .inl ⟨rfl, rfl⟩⟩
    · cases k with
      | zero => omega
      | succ k =>
        rw [notesR, if_neg (by omega)] at hWW
        simp only [app_inv_normal]
        refine ⟨k, by omega, i + 1, v2, _, _, by omega, (noteR_ok hr').1, by simp [hacc], hWW, h2⟩
    · cases k with
      | succ k => omega
      | zero =>
        rw [notesR] at hWW
        subst hWW
        obtain ⟨q0, q1, q2, q3, q4, q5, q6, q7, q8, ⟨c0, c1, c2, q9⟩, q10, q11⟩ := h2
        simp (maxDischargeDepth := 40) only [Nat.reduceEqDiff, Nat.reduceLT, Nat.reduceAdd, Nat.le_refl, WK_ret, WK_seq, WK_region, WLK_nil, WLK_cons, app_fin, app_seq_normal, app_block_exit, app_inv_exit, List.take_succ_cons, List.drop_succ_cons, isAggD, List.all_cons, List.all_nil, oc_int, oc_str, cells_agg, Bool.and_self, aLoad, aStore, List.cons_append, List.take_zero, List.drop_zero, List.length_cons, List.length_nil, Nat.zero_add, Option.some.injEq, exists_eq_left', str_def, AH.load, AH.store, splice, AH.get_set, want, dstOk, opR, opE, ev, put_n, put_tmps, put_none, put_defers, ↓bind_match, ↓map_match, ↓reduceIte, decide_true, true_and, and_true, List.toList_toArray, List.size_toArray, List.cons_append, List.nil_append, ABody, aResults, aResult, tupleOf, rs15, ty45, q0, q1, q2, q3, q4, q8, q9]
        refine ⟨v, rfl, ?_, q11.set _ _ (by omega)⟩
        rcases q7 with h | ⟨b, h1, h2, h3, h4⟩
        · exact .inl h
        · exact .inr ⟨b, unk, h1, by rw [AH.get_set_ne _ _ _ _ (by omega)]; exact h4, h3⟩

end Go.Am.Q
