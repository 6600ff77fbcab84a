/- Part of the proof: an abstract machine of our own over the model; no condition. -/
import Derived.Test.YtdicnaninnmoeaaGreatAmF
set_option linter.unusedSectionVars false
set_option linter.unusedSimpArgs false
set_option linter.unusedVariables false
set_option linter.unnecessarySimpa false
/- The abstract machine, part F2: append is sound. -/
namespace Go.Am
open Go
variable [F : Fr]

variable {P : Program} {ty : TyT} {σ : Sig} {H : AH} {w : World}

/-- The real side of what is appended. -/
structure App (P : Program) (σ : Sig) (e : TypeId) (y : Ty) (d1 : TypeDesc) (n : Nat) (xs : List Value) (x' : Value) (w : World) : Prop where
  one : xs.all (·.oneCell') = true
  len : xs.length = n * y.size
  ints : isIntD d1 = true → ∃ k l, x' = .int k l ∧ n = l.toNat ∧ 0 ≤ l ∧ l ≤ 4294967296 ∧ xs = (zeroRow y (n * y.size)).toList
  src : isIntD d1 = false → (Builtin.lenOf x').run P w = .ok n w ∧ ∃ rs : Array Value, rs.size = n * y.size ∧ VRs σ xs rs.toList ∧
    ∀ w' : World, w'.heap = w.heap → (Builtin.firstCells y.size n x').run P w' = .ok rs w'

theorem appended_sound (ok : TyOk P ty) (hr : HR P σ H w) {e : TypeId} {y : Ty} (hy : ty e = some y) {d1 : TypeDesc} {n : Nat} {xs : List Value} {x x' : Value} (hx : VR σ x x')
    (h : appended H y d1 x = some (n, xs)) : App P σ e y d1 n xs x' w := by
  unfold appended at h
  split at h
  · rename_i hd
    split at h <;> try (cases h; done)
    rename_i l hl
    split at h <;> try (cases h; done)
    rename_i hc
    cases h
    obtain ⟨k, rfl⟩ := intOf?_VR hx hl
    exact ⟨zeroRow_one ok hy _, by simp [zeroRow], fun _ => ⟨_, _, rfl, rfl, hc.1, hc.2, rfl⟩, fun he => by rw [hd] at he; cases he⟩
  · rename_i hd
    split at h <;> try (cases h; done)
    rename_i hs
    have hl0 := srcCells_len h (fun s e => by subst e; simpa [isStr] using hs)
    refine ⟨srcCells_one hr h, hl0, fun he => absurd he hd, fun _ => ?_⟩
    obtain ⟨h2, rs, h3, h4⟩ := srcCells_sound hr hx h
    refine ⟨h2, rs, ?_, h3, h4⟩
    have hl := h3.length
    simp at hl
    omega

/-- The new row of an append that grows. -/
theorem grows (ok : TyOk P ty) (hr : HR P σ H w) {e : TypeId} {y : Ty} (hy : ty e = some y) {len n : Nat} {old xs : List Value} {rold rnew : Array Value}
    (ho : VRs σ old rold.toList) (hx : VRs σ xs rnew.toList) (hoo : old.all (·.oneCell') = true) (hxo : xs.all (·.oneCell') = true) (hol : rold.size = len * y.size) (hnl : rnew.size = n * y.size) (hys : y.size ≠ 0)
    {newCap : Nat} (hc : len + n ≤ newCap) (w1 : World) (hw1 : w1.heap = w.heap) (hw2 : w1.os = w.os ∧ w1.output = w.output ∧ w1.tape = w.tape) :
    GV P σ (H.push (.cells (old ++ xs) e)) (.slice (some ⟨H.next, 0, none⟩) (len + n) unk)
      ((do pure (.slice (some (← Go.newRow e (rold ++ rnew ++ zeroRow y ((newCap - (len + n)) * y.size)))) (len + n) newCap) : Sem Value).run P w1) := by
  have hr1 := hr.congr hw1 hw2
  obtain ⟨σ', w', hle, hr', hσ, hrun, _⟩ := hr1.newRow ok hy (cs := old ++ xs) (rs := rold ++ rnew) (zeroRow y ((newCap - (len + n)) * y.size)) (by simpa using ho.append hx) (by simp only [List.all_append, hoo, hxo, Bool.and_self])
  have hsz : (rold ++ rnew ++ zeroRow y ((newCap - (len + n)) * y.size)).size = newCap * y.size := by
    simp [zeroRow, hol, hnl]
    rw [← Nat.add_mul, ← Nat.add_mul]
    congr 1
    omega
  rw [hsz] at hσ
  have hv := VR.slice (σ := σ') H.next 0 (len + n) unk newCap _ hσ (.inr rfl) hc (by simp)
  simp only [Nat.zero_add] at hv
  refine ⟨σ', _, w', ?_, hle, hr', hv⟩
  simp only [Sem.run_bind, hrun, Result.andThen_ok, Sem.run_pure]

theorem wrap64_of {l : Int} (h0 : 0 ≤ l) (h1 : l ≤ 4294967296) : IntKind.i64.wrap l = l := by
  simp [IntKind.wrap, IntKind.signed, IntKind.bits]
  omega

theorem cut_appendCap (need old : Nat) (e : TypeId) (t : Nat) : need ≤ (Question.appendCap need old e).cut t := by
  simp [Question.cut]

theorem append_grow (ok : TyOk P ty) (hr : HR P σ H w) {t t1 rt : TypeId} {d d1 : Ty} (hd : ty t = some d) (hd1 : ty t1 = some d1) {e : TypeId} (hde : d.desc = .slice e) {y : Ty} (hy : ty e = some y)
    {ra : Option Addr} {len cap' n : Nat} {x' : Value} {old xs : List Value} (happ : App P σ e y d1.desc n xs x' w) (hys : y.size ≠ 0) (hb : y.bytes ≤ 4096) (hb0 : y.bytes ≠ 0) (hl : len + n ≤ 4294967296)
    (hgt : cap' < len + n) {rold : Array Value} (hol : rold.size = len * y.size) (ho : VRs σ old rold.toList) (hoo : old.all (·.oneCell') = true)
    (hold : ∀ w' : World, w'.heap = w.heap → (Builtin.firstCells y.size len (.slice ra len cap')).run P w' = .ok rold w') :
    GV P σ (H.push (.cells (old ++ xs) e)) (.slice (some ⟨H.next, 0, none⟩) (len + n) unk) ((Builtin.append_ #[t, t1] rt #[.slice ra len cap', x']).run P w) := by
  have hu := fun w => run_underlying_ty ok hd w
  have hu1 := fun w => run_underlying_ty ok hd1 w
  have hsz := fun w => run_sizeOf_ty ok hy w
  have hz := fun w => run_zeroValue_ty ok hy w
  have hzs := (ok e y hy).zsize
  obtain ⟨info, hI, hi1, hi2, hi3⟩ := (ok e y hy).ex
  have hinf : ∀ w, (typeInfo e).run P w = .ok info w := fun w => by simp [typeInfo, hI]
  have e3 : ¬ (len + n ≤ cap') := by omega
  have e4 : ¬ (9223372036854775807 < (len : Int) + (n : Int)) := by omega
  have hnc := nextslicecap_le (len + n) cap' hgt
  have e5 : ¬ (281474976710656 < Builtin.nextslicecap (len + n) cap' * info.bytes) := by
    rw [hi2]
    have h1 : Builtin.nextslicecap (len + n) cap' * y.bytes ≤ 8589935616 * 4096 := Nat.mul_le_mul (by omega) hb
    omega
  have e6 : ¬ info.bytes = 0 := by rw [hi2]; exact hb0
  have hg := fun (rnew : Array Value) (hx : VRs σ xs rnew.toList) (hnl : rnew.size = n * y.size) =>
    grows ok hr hy ho hx hoo happ.one hol hnl hys (cut_appendCap (len + n) cap' e (w.tape w.drawn (Question.appendCap (len + n) cap' e))) { w with drawn := w.drawn + 1 } rfl ⟨rfl, rfl, rfl⟩
  have hdr := hold w.drew rfl
  cases hi : isIntD d1.desc with
  | true =>
    obtain ⟨kk, hkk⟩ : ∃ kk, d1.desc = .int kk := by
      cases hh : d1.desc <;> simp [hh, isIntD] at hi
      exact ⟨_, rfl⟩
    obtain ⟨k, l, rfl, hn, h0, h1, hxs⟩ := happ.ints hi
    obtain ⟨m, rfl⟩ := Int.eq_ofNat_of_zero_le h0
    obtain rfl : n = m := by omega
    have hg := hg (zeroRow y (n * y.size)) (by rw [hxs]; exact zeroRow_VRs ok hy σ _) (by simp [zeroRow])
    have hwrap : IntKind.i64.wrap (n : Int) = n := wrap64_of (by omega) h1
    have e1 : ¬ (n : Int) < 0 := by omega
    have e2 : ¬ (281474976710656 < (n : Int) * (info.bytes : Int)) := by
      rw [hi2]
      have : n * y.bytes ≤ 4294967296 * 4096 := Nat.mul_le_mul (by omega) hb
      have h3 : ((n * y.bytes : Nat) : Int) = (n : Int) * (y.bytes : Int) := by simp
      omega
    have hzero : (Builtin.zeroCells y.zero.cells n) = zeroRow y (n * y.size) := by simp [Builtin.zeroCells, zeroRow, hzs]
    have hzero2 : ∀ m, (Builtin.zeroCells y.zero.cells m) = zeroRow y (m * y.size) := fun m => by simp [Builtin.zeroCells, zeroRow, hzs]
    by_cases hn0 : n * y.size = 0
    · have hr0 : zeroRow y (n * y.size) = #[] := by simp [zeroRow, hn0]
      rw [hr0] at hg
      simp only [Array.append_empty] at hg
      simp [Builtin.append_, hu, hde, hsz, hu1, hkk, asInt, asIntOf, hwrap, e1, hinf, e2, e3, e4, e5, e6, Question.forced, hdr, hn0, hz, hzero2] at hg ⊢
      exact hg
    · simp [Builtin.append_, hu, hde, hsz, hu1, hkk, asInt, asIntOf, hwrap, e1, hinf, e2, e3, e4, e5, e6, Question.forced, hdr, hn0, hz, hzero2] at hg ⊢
      exact hg
  | false =>
    have hkk : ∀ k, d1.desc ≠ .int k := by
      intro k hk
      rw [hk] at hi
      cases hi
    obtain ⟨hlen, rnew, hnl, hxv, hnew⟩ := happ.src hi
    have hg := hg rnew hxv hnl
    have hnr := hnew w.drew rfl
    have hzero2 : ∀ m, (Builtin.zeroCells y.zero.cells m) = zeroRow y (m * y.size) := fun m => by simp [Builtin.zeroCells, zeroRow, hzs]
    simp [Builtin.append_, hu, hde, hsz, hu1, hlen, hinf, e3, e4, e5, e6, Question.forced, hdr, hz, hzero2] at hg ⊢
    cases hdd : d1.desc <;> first | exact absurd hdd (hkk _) | (simp [hnr]; exact hg)

/-- An append within the capacity. -/
theorem append_fits (ok : TyOk P ty) (hr : HR P σ H w) {t t1 rt : TypeId} {d d1 : Ty} (hd : ty t = some d) (hd1 : ty t1 = some d1) {e : TypeId} (hde : d.desc = .slice e) {y : Ty} (hy : ty e = some y)
    {b o : Nat} {im : Img} (hσ : σ b = some im) {len cap' n : Nat} (hs : im.base + o + cap' * im.esz ≤ im.size)
    {x' : Value} {cs old xs : List Value} (hblk : H.get b = some (.cells cs e)) (happ : App P σ e y d1.desc n xs x' w) (hys : y.size ≠ 0) (hb : y.bytes ≤ 4096)
    (hfit : len + n ≤ cap')
    (hold : old = (cs.drop o).take (len * y.size)) (hol : o + len * y.size ≤ cs.length) :
    GV P σ ((H.set b none).push (.cells (old ++ xs) e)) (.slice (some ⟨H.next, 0, none⟩) (len + n) unk)
      ((Builtin.append_ #[t, t1] rt #[.slice (some ⟨im.blk, im.base + o, none⟩) len cap', x']).run P w) := by
  have hu := fun w => run_underlying_ty ok hd w
  have hu1 := fun w => run_underlying_ty ok hd1 w
  have hsz := fun w => run_sizeOf_ty ok hy w
  have hz := fun w => run_zeroValue_ty ok hy w
  have hzs := (ok e y hy).zsize
  obtain ⟨info, hI, hi1, hi2, hi3⟩ := (ok e y hy).ex
  have hinf : ∀ w, (typeInfo e).run P w = .ok info w := fun w => by simp [typeInfo, hI]
  have hB := hr.at hblk hσ
  cases hw : w.heap[im.blk]? with
  | none => rw [hw] at hB; exact hB.elim
  | some ob =>
    rw [hw] at hB
    cases ob <;> try exact hB.elim
    rename_i c e' fr
    obtain ⟨h1', h2, h3, h4, h5, h6, h7⟩ := hB
    have hone := happ.one
    have hxl := happ.len
    rw [cellsOf_ty ok hy] at h3
    rw [h3] at hs
    -- the store
    have core : ∀ rnew : Array Value, VRs σ xs rnew.toList →
        ∃ w', (storeCells ⟨im.blk, im.base + o + len * y.size, none⟩ rnew.toList).run P w = .ok () w' ∧
          ∃ σ', Le σ σ' ∧ HR P σ' ((H.set b none).push (.cells (old ++ xs) e)) w' ∧
            VR σ' (.slice (some ⟨H.next, 0, none⟩) (len + n) unk) (.slice (some ⟨im.blk, im.base + o, none⟩) (len + n) cap') := by
      intro rnew hx
      have hxl' := hx.length
      have hmul : (len + n) * y.size = len * y.size + n * y.size := Nat.add_mul _ _ _
      have hmul2 : (len + n) * y.size ≤ cap' * y.size := Nat.mul_le_mul_right _ hfit
      have hbound : im.base + o + len * y.size + rnew.toList.length ≤ c.size := by omega
      have hrun := run_storeCells_upd (P := P) im.blk e' fr rnew.toList 0 (im.base + o + len * y.size) c w hw (by omega) (by rw [h2]; exact h6) (hx.oneCell hone)
      refine ⟨_, hrun, ?_⟩
      have hlt := hr.blk_lt hblk hσ
      have hr1 := hr.del b
      have hlay := hr1.lay (w' := upd w im.blk (.cells (setAll c (im.base + o + len * y.size + 0) rnew.toList) e' fr)) ⟨im.blk, im.base + o, im.size, im.esz⟩ (.cells (old ++ xs) e) ?_ ?_ (hr.apart b _ im hblk rfl hσ) (fun k hk => by
        have hap := hr.apart b _ im hblk rfl hσ
        have hne : im.blk ≠ k := by omega
        simp [upd, Array.getElem?_setIfInBounds, hne]) ⟨rfl, rfl, rfl⟩
      · refine ⟨_, hlay.2, hlay.1, ?_⟩
        have hv := VR.slice (σ := σ.ext H.next ⟨im.blk, im.base + o, im.size, im.esz⟩) H.next 0 (len + n) unk cap' ⟨im.blk, im.base + o, im.size, im.esz⟩ (by simp [Sig.ext]) (.inr rfl) hfit (by simp; rw [h3]; exact hs)
        simpa using hv
      · intro q cl j hq hj
        have hqb : q ≠ b := by
          intro e
          subst e
          simp at hq
        rw [AH.get_set_ne _ _ _ _ hqb] at hq
        have hne : j.blk ≠ im.blk := fun e => hqb (hr.inj b q _ cl im j hblk hq rfl hσ hj e.symm).symm
        refine ⟨hne, ?_⟩
        simp [upd, Array.getElem?_setIfInBounds, Ne.symm hne]
      · have hle : Le σ (σ.ext (H.set b none).next ⟨im.blk, im.base + o, im.size, im.esz⟩) := Sig.le_ext (hr.fresh _ (Nat.le_refl _))
        have hget : (upd w im.blk (.cells (setAll c (im.base + o + len * y.size + 0) rnew.toList) e' fr)).heap[im.blk]? = some (.cells (setAll c (im.base + o + len * y.size + 0) rnew.toList) e' fr) := by
          simp [upd, Array.getElem?_setIfInBounds, hlt]
        rw [hget]
        have hll : (old ++ xs).length = (len + n) * y.size := by
          rw [hold]; simp; omega
        have hall : (old ++ xs).all (·.oneCell') = true := by
          rw [List.all_append, hone, Bool.and_true, hold]
          simp only [List.all_eq_true] at h7 ⊢
          intro x hx
          exact h7 x (List.mem_of_mem_drop (List.mem_of_mem_take hx))
        refine ⟨h1', by rw [setAll_size]; exact h2, by rw [cellsOf_ty ok hy]; exact h3, by rw [hll]; simp; omega, ?_, h6, hall⟩
        rw [setAll_toList _ _ _ (by omega), hll]
        have hcl : c.toList.length = c.size := by simp
        have e1 : ((splice c.toList (im.base + o + len * y.size + 0) rnew.toList).drop (im.base + o)).take ((len + n) * y.size) =
            (((c.toList.drop im.base).take cs.length).drop o).take (len * y.size) ++ rnew.toList := by
          apply List.ext_getElem?
          intro k
          rw [List.getElem?_take, List.getElem?_drop, splice_get? _ _ _ (by omega)]
          have hrl : rnew.toList.length = n * y.size := by omega
          have hl3 : ((((c.toList.drop im.base).take cs.length).drop o).take (len * y.size)).length = len * y.size := by simp; omega
          by_cases hk : k < len * y.size
          · rw [if_pos (by omega), if_pos (by omega), List.getElem?_append_left (by omega), List.getElem?_take, if_pos hk, List.getElem?_drop, List.getElem?_take, if_pos (by omega), List.getElem?_drop]
            congr 1
            omega
          · rw [List.getElem?_append_right (by omega), hl3]
            by_cases hk2 : k < (len + n) * y.size
            · rw [if_pos hk2, if_neg (by omega), if_pos (by omega)]
              congr 1
              omega
            · rw [if_neg hk2, List.getElem?_eq_none (by omega)]
        rw [e1, hold]
        exact (((h5.drop o).take (len * y.size)).append hx).mono hle
    cases hi : isIntD d1.desc with
    | true =>
      obtain ⟨kk, hkk⟩ : ∃ kk, d1.desc = .int kk := by
        cases hh : d1.desc <;> simp [hh, isIntD] at hi
        exact ⟨_, rfl⟩
      obtain ⟨k, l, rfl, hn, h0, h1, hxs⟩ := happ.ints hi
      obtain ⟨m, rfl⟩ := Int.eq_ofNat_of_zero_le h0
      obtain rfl : n = m := by omega
      obtain ⟨w', hrun, σ', hle, hr', hv⟩ := core (zeroRow y (n * y.size)) (by rw [hxs]; exact zeroRow_VRs ok hy σ _)
      have hwrap : IntKind.i64.wrap (n : Int) = n := wrap64_of (by omega) h1
      have e1 : ¬ (n : Int) < 0 := by omega
      have e2 : ¬ (281474976710656 < (n : Int) * (info.bytes : Int)) := by
        rw [hi2]
        have : n * y.bytes ≤ 4294967296 * 4096 := Nat.mul_le_mul (by omega) hb
        have h3 : ((n * y.bytes : Nat) : Int) = (n : Int) * (y.bytes : Int) := by simp
        omega
      have hzero2 : ∀ m, (Builtin.zeroCells y.zero.cells m) = zeroRow y (m * y.size) := fun m => by simp [Builtin.zeroCells, zeroRow, hzs]
      refine ⟨σ', _, w', ?_, hle, hr', hv⟩
      by_cases hn0 : n * y.size = 0
      · have hr0 : zeroRow y (n * y.size) = #[] := by simp [zeroRow, hn0]
        rw [hr0] at hrun
        simp at hrun
        simp [Builtin.append_, hu, hde, hsz, hu1, hkk, asInt, asIntOf, hwrap, e1, hinf, e2, hfit, hn0, hz, hzero2, hrun, Addr.add_lit]
      · simp [Builtin.append_, hu, hde, hsz, hu1, hkk, asInt, asIntOf, hwrap, e1, hinf, e2, hfit, hn0, hz, hzero2, hrun, Addr.add_lit]
    | false =>
      have hkk : ∀ k, d1.desc ≠ .int k := by
        intro k hk
        rw [hk] at hi
        cases hi
      obtain ⟨hlen, rnew, hnl, hxv, hnew⟩ := happ.src hi
      obtain ⟨w', hrun, σ', hle, hr', hv⟩ := core rnew hxv
      have hnr := hnew w rfl
      refine ⟨σ', _, w', ?_, hle, hr', hv⟩
      simp [Builtin.append_, hu, hde, hsz, hu1, hlen, hfit]
      cases hdd : d1.desc <;> first | exact absurd hdd (hkk _) | (simp [hnr, hrun, Addr.add_lit])

theorem len_old {H : AH} {b o len size : Nat} {old : List Value} (h : (if len = 0 then some [] else H.load b o (len * size)) = some old) : old.length = len * size := by
  split at h
  · rename_i h0; cases h; simp [h0]
  · obtain ⟨all, e, _, hle, rfl⟩ := AH.load_some h
    simp
    omega

theorem aAppend_sound (ok : TyOk P ty) (hr : HR P σ H w) {t t1 rt : TypeId} {s s' x x' v : Value} {H' : AH} (hs : VR σ s s') (hx : VR σ x x')
    (h : aAppend ty H t t1 s x = some (v, H')) : GV P σ H' v ((Builtin.append_ #[t, t1] rt #[s', x']).run P w) := by
  unfold aAppend at h
  split at h <;> try (cases h; done)
  rename_i d d1 hd hd1
  split at h <;> try (cases h; done)
  rename_i e a len cap hde
  split at h <;> try (cases h; done)
  rename_i y hy
  split at h <;> try (cases h; done)
  rename_i hcond
  split at h <;> try (cases h; done)
  rename_i n xs happ0
  split at h <;> try (cases h; done)
  rename_i hsize
  have happ := appended_sound ok hr hy hx happ0
  have hys : y.size ≠ 0 := fun h => hcond (.inl h)
  have hb : y.bytes ≤ 4096 := by omega
  have hb0 : y.bytes ≠ 0 := by omega
  have hlen : len + n ≤ 4294967296 := by omega
  split at h
  · -- nothing is appended
    rename_i hn
    cases h
    subst hn
    have hu := fun w => run_underlying_ty ok hd w
    have hu1 := fun w => run_underlying_ty ok hd1 w
    have hsz := fun w => run_sizeOf_ty ok hy w
    obtain ⟨info, hI, hi1, hi2, hi3⟩ := (ok e y hy).ex
    have hinf : ∀ w, (typeInfo e).run P w = .ok info w := fun w => by simp [typeInfo, hI]
    obtain ⟨ra, cap', rfl, hlc⟩ : ∃ ra cap', s' = .slice ra len cap' ∧ len ≤ cap' := by
      cases hs with
      | snil => exact ⟨none, 0, rfl, Nat.le_refl _⟩
      | slice b o _ _ cap' im hσ hc hl hs => exact ⟨_, cap', rfl, hl⟩
      | slice0 b o o' _ im hσ hc => exact ⟨_, 0, rfl, Nat.le_refl _⟩
    have hrun : (Builtin.append_ #[t, t1] rt #[.slice ra len cap', x']).run P w = .ok (.slice ra len cap') w := by
      cases hi : isIntD d1.desc with
      | true =>
        obtain ⟨kk, hkk⟩ : ∃ kk, d1.desc = .int kk := by
          cases hh : d1.desc <;> simp [hh, isIntD] at hi
          exact ⟨_, rfl⟩
        obtain ⟨k, l, rfl, hn, h0, h1, hxs⟩ := happ.ints hi
        obtain rfl : l = 0 := by omega
        have hwrap : IntKind.i64.wrap (0 : Int) = 0 := wrap64_of (by omega) h1
        cases ra with
        | none => simp [Builtin.append_, hu, hde, hsz, hu1, hkk, asInt, asIntOf, hwrap, hinf, hlc, storeCells]
        | some ra => simp [Builtin.append_, hu, hde, hsz, hu1, hkk, asInt, asIntOf, hwrap, hinf, hlc, storeCells]
      | false =>
        obtain ⟨hlen, rnew, hnl, hxv, hnew⟩ := happ.src hi
        have hnr := hnew w rfl
        simp at hnl
        subst hnl
        have hkk : ∀ k, d1.desc ≠ .int k := by
          intro k hk
          rw [hk] at hi
          cases hi
        cases ra with
        | none =>
          simp [Builtin.append_, hu, hde, hsz, hu1, hlen, hlc, storeCells]
          cases hdd : d1.desc <;> first | exact absurd hdd (hkk _) | (simp [hnr])
        | some ra =>
          simp [Builtin.append_, hu, hde, hsz, hu1, hlen, hlc, storeCells]
          cases hdd : d1.desc <;> first | exact absurd hdd (hkk _) | (simp [hnr, storeCells])
    rw [hrun]
    exact .same hr hs
  · rename_i hn
    split at h
    · -- onto nil
      split at h <;> try (cases h; done)
      rename_i hc
      cases h
      obtain ⟨rfl, rfl⟩ := hc
      cases hs
      have := append_grow (rt := rt) (len := 0) (cap' := 0) (ra := none) (old := []) (rold := #[]) ok hr hd hd1 hde hy happ hys hb hb0 (by omega) (by omega) (by simp) .nil rfl
        (fun w' _ => by simp [Builtin.firstCells])
      simpa using this
    · rename_i b o
      -- what the real slice has
      have hreal : ∀ old, (if len = 0 then some [] else H.load b o (len * y.size)) = some old → old.all (·.oneCell') = true ∧ ∀ ra cap', s' = .slice ra len cap' →
          ∃ rold : Array Value, rold.size = len * y.size ∧ VRs σ old rold.toList ∧
          ∀ w' : World, w'.heap = w.heap → (Builtin.firstCells y.size len (.slice ra len cap')).run P w' = .ok rold w' := by
        intro old hold
        have hol := len_old hold
        by_cases h0 : len = 0
        · rw [if_pos h0] at hold
          cases hold
          refine ⟨rfl, fun ra cap' e => ?_⟩
          subst e
          refine ⟨#[], by simp [h0], .nil, fun w' _ => ?_⟩
          subst h0
          cases ra <;> simp [Builtin.firstCells, loadCells, loadCellsFrom]
        · rw [if_neg h0] at hold
          refine ⟨hr.load_one hold, fun ra cap' e => ?_⟩
          subst e
          cases hs with
          | slice _ _ _ _ _ im hσ hc hl hs =>
            obtain ⟨rs, hv, hl2, _, hrun⟩ := hr.load hold hσ
            refine ⟨rs.toArray, ?_, by simpa using hv, fun w' hw => by simp [Builtin.firstCells, hrun w' hw]⟩
            have := hv.length
            simp
            omega
          | slice0 => exact absurd rfl h0
      split at h
      · rename_i hcap
        split at h <;> try (cases h; done)
        rename_i old hold
        cases h
        obtain ⟨hoo, hreal⟩ := hreal old hold
        obtain ⟨ra, cap', rfl, hcc⟩ : ∃ ra cap', s' = .slice ra len cap' ∧ cap' = cap := by
          cases hs with
          | slice b o _ _ cap' im hσ hc hl hs => exact ⟨_, cap', rfl, by rcases hc with h | h <;> omega⟩
          | slice0 b o o' _ im hσ hc => exact ⟨_, 0, rfl, by rcases hc with h | h <;> omega⟩
        obtain ⟨rold, h1, h2, h3⟩ := hreal ra cap' rfl
        exact append_grow ok hr hd hd1 hde hy happ hys hb hb0 hlen (by omega) h1 h2 hoo h3
      · split at h <;> try (cases h; done)
        rename_i hcap hblk
        split at h <;> try (cases h; done)
        rename_i old hload
        cases h
        -- the block
        obtain ⟨cs, hg⟩ : ∃ cs, H.get b = some (.cells cs e) := by
          simp only [okBlk] at hblk
          cases hg : H.get b with
          | none => simp [hg] at hblk
          | some bl =>
            cases bl with
            | map es => simp [hg] at hblk
            | ro cs e' => simp [hg] at hblk
            | cells cs e' => simp [hg] at hblk; subst hblk; exact ⟨cs, rfl⟩
        have hcs : old = (cs.drop o).take (len * y.size) ∧ o + len * y.size ≤ cs.length := by
          unfold AH.load at hload
          rw [hg] at hload
          simp only at hload
          split at hload <;> try (cases hload; done)
          rename_i hle
          cases hload
          exact ⟨rfl, hle⟩
        have hold : (if len = 0 then some [] else H.load b o (len * y.size)) = some old := by
          by_cases h0 : len = 0
          · rw [if_pos h0, hcs.1, h0]; simp
          · rw [if_neg h0, hload]
        obtain ⟨hoo, hreal⟩ := hreal old hold
        have grow : ∀ ra cap', s' = .slice ra len cap' → cap' < len + n → GV P σ ((H.set b none).push (.cells (old ++ xs) e)) (.slice (some ⟨H.next, 0, none⟩) (len + n) unk)
            ((Builtin.append_ #[t, t1] rt #[.slice ra len cap', x']).run P w) := by
          intro ra cap' e1 hlt
          obtain ⟨rold, h1, h2, h3⟩ := hreal ra cap' e1
          have := append_grow (rt := rt) ok (hr.del b) hd hd1 hde hy happ hys hb hb0 hlen hlt h1 h2 hoo h3
          exact this
        cases hs with
        | slice _ _ _ _ cap' im hσ hc hl hs =>
          by_cases hfit : len + n ≤ cap'
          · exact append_fits ok hr hd hd1 hde hy hσ hs hg happ hys hb hfit hcs.1 hcs.2
          · exact grow _ cap' rfl (by omega)
        | slice0 _ _ o' _ im hσ hc => exact grow _ 0 rfl (by omega)
    · cases h

end Go.Am
