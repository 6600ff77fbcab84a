/- Part of the proof: an abstract machine of our own over the model; no condition. -/
import Derived.Test.YtdicnaninnmoeaaGreatAmB
import Derived.Laws.Entries
import Derived.Laws.Cells
set_option linter.unusedSectionVars false
set_option linter.unusedSimpArgs false
set_option linter.unusedVariables false
set_option linter.unnecessarySimpa false
/- The abstract machine, part C: loads, stores, new blocks. -/
namespace Go.Am
open Go
variable [F : Fr]

structure Ty where
  desc : TypeDesc
  size : Nat
  bytes : Nat
  zero : Value

abbrev TyT := TypeId → Option Ty

structure TyOk1 (P : Program) (t : TypeId) (x : Ty) : Prop where
  zone : x.zero.cells.toList.all (·.oneCell') = true
  ex : ∃ info, P.info? t = some info ∧ info.size = x.size ∧ info.bytes = x.bytes ∧ info.zero = some x.zero
  und : P.underlying t = some x.desc
  self : selfRel 3 x.zero = true
  zsize : x.zero.cells.size = x.size

def TyOk (P : Program) (ty : TyT) : Prop := ∀ t x, ty t = some x → TyOk1 P t x

section runs
variable {P : Program} {ty : TyT} (ok : TyOk P ty) {t : TypeId} {x : Ty} (h : ty t = some x) (w : World)
include ok h

theorem run_underlying_ty : (underlying t).run P w = .ok x.desc w := by
  have := (ok t x h).und
  simp [underlying, this]

theorem run_typeInfo_ty : ∃ info, (typeInfo t).run P w = .ok info w ∧ info.size = x.size ∧ info.bytes = x.bytes ∧ info.zero = some x.zero := by
  obtain ⟨info, h1, h2⟩ := (ok t x h).ex
  exact ⟨info, by simp [typeInfo, h1], h2⟩

theorem run_sizeOf_ty : (sizeOf t).run P w = .ok x.size w := by
  obtain ⟨info, h1, h2, _⟩ := run_typeInfo_ty ok h w
  simp [sizeOf, h1, h2]

theorem run_zeroValue_ty : (zeroValue t).run P w = .ok x.zero w := by
  obtain ⟨info, h1, _, _, h3⟩ := run_typeInfo_ty ok h w
  simp [zeroValue, h1, h3]

theorem cellsOf_ty : P.cellsOf t = x.size := by
  obtain ⟨info, h1, h2, _⟩ := (ok t x h).ex
  simp [Program.cellsOf, h1, h2]

theorem zero_VR (σ : Sig) : VR σ x.zero x.zero := selfRel_VR 3 _ (ok t x h).self
end runs

def isAggD : TypeDesc → Bool
  | .struct _ | .array _ _ => true
  | _ => false

theorem run_isAgg_ty {P : Program} {ty : TyT} (ok : TyOk P ty) {t : TypeId} {x : Ty} (h : ty t = some x) (w : World) :
    (isAgg t).run P w = .ok (isAggD x.desc) w := by
  have := run_underlying_ty ok h w
  simp only [isAgg, Sem.run_bind, this, Result.andThen_ok]
  cases x.desc <;> simp [isAggD]

/-- What is loaded is a row's. -/
theorem AH.load_some {H : AH} {b o n : Nat} {cs : List Value} (h : H.load b o n = some cs) :
    ∃ all e, (H.get b = some (.cells all e) ∨ H.get b = some (.ro all e)) ∧ o + n ≤ all.length ∧ cs = (all.drop o).take n := by
  unfold AH.load at h
  split at h <;> try (cases h; done)
  · rename_i all e hb
    split at h <;> cases h
    exact ⟨all, e, .inl hb, by assumption, rfl⟩
  · rename_i all e hb
    split at h <;> cases h
    exact ⟨all, e, .inr hb, by assumption, rfl⟩

theorem HR.row {P : Program} {σ : Sig} {H : AH} {w : World} (hr : HR P σ H w) {b : Nat} {all : List Value} {e : TypeId} {i : Img} (hb : H.get b = some (.cells all e) ∨ H.get b = some (.ro all e)) (hi : σ b = some i) :
    ∃ c e' fr, w.heap[i.blk]? = some (.cells c e' fr) ∧ i.base + all.length ≤ i.size ∧ c.size = i.size ∧ VRs σ all ((c.toList.drop i.base).take all.length) ∧ all.all (·.oneCell') = true := by
  rcases hb with hb | hb
  · have hB := hr.at hb hi
    cases hw : w.heap[i.blk]? with
    | none => rw [hw] at hB; exact hB.elim
    | some ob =>
      rw [hw] at hB
      cases ob <;> try exact hB.elim
      obtain ⟨h1, h2, h3, h4, h5, h6, h7⟩ := hB
      exact ⟨_, _, _, rfl, h4, h2, h5, h7⟩
  · have hB := hr.at hb hi
    cases hw : w.heap[i.blk]? with
    | none => rw [hw] at hB; exact hB.elim
    | some ob =>
      rw [hw] at hB
      cases ob <;> try exact hB.elim
      obtain ⟨h2, h3, h4, h5, h7⟩ := hB
      exact ⟨_, _, _, rfl, h4, h2, h5, h7⟩

/-- What a load of cells gives. -/
theorem HR.load {P : Program} {σ : Sig} {H : AH} {w : World} (hr : HR P σ H w) {b o n : Nat} {cs : List Value} {i : Img}
    (h : H.load b o n = some cs) (hi : σ b = some i) :
    ∃ rs, VRs σ cs rs ∧ cs.length = n ∧ (∀ j v, rs[j]? = some v → w.cell? ⟨i.blk, i.base + o + j, none⟩ = some v) ∧
      ∀ w' : World, w'.heap = w.heap → (loadCells ⟨i.blk, i.base + o, none⟩ n).run P w' = .ok rs.toArray w' := by
  obtain ⟨all, e, hb, hle, rfl⟩ := AH.load_some h
  obtain ⟨c, e', fr, hw, h4, h2, h5, h7⟩ := hr.row hb hi
  have hlen : ((all.drop o).take n).length = n := by simp; omega
  refine ⟨((((c.toList.drop i.base).take all.length).drop o).take n), (h5.drop o).take n, hlen, ?_, ?_⟩
  · intro j v hj
    have hjn : j < n := by
      rcases Nat.lt_or_ge j n with hh | hh
      · exact hh
      · rw [List.getElem?_eq_none (by simp; omega)] at hj; cases hj
    simp only [World.cell?, hw]
    rw [List.getElem?_take, if_pos hjn, List.getElem?_drop, List.getElem?_take, if_pos (by omega), List.getElem?_drop] at hj
    simpa [Nat.add_assoc] using hj
  · intro w' hww
    have hl2 : ((((c.toList.drop i.base).take all.length).drop o).take n).length = n := by
      rw [← ((h5.drop o).take n).length]; exact hlen
    have := run_loadCells_list (P := P) w' ⟨i.blk, i.base + o, none⟩ ((((c.toList.drop i.base).take all.length).drop o).take n) ?_
    · rwa [hl2] at this
    · intro j v hj
      have hjn : j < n := by
        rcases Nat.lt_or_ge j n with hh | hh
        · exact hh
        · rw [List.getElem?_eq_none (by simp; omega)] at hj; cases hj
      rw [Addr.add_lit]
      simp only [World.cell?, hww, hw]
      rw [List.getElem?_take, if_pos hjn, List.getElem?_drop, List.getElem?_take, if_pos (by omega), List.getElem?_drop] at hj
      simpa [Nat.add_assoc] using hj

def aLoad (ty : TyT) (H : AH) (t : TypeId) (p : Value) : Option Value :=
  match p with
  | .pointer (some ⟨b, o, none⟩) =>
    match ty t with
    | none => none
    | some x =>
      if isAggD x.desc then (H.load b o x.size).map fun cs => .agg cs.toArray
      else (H.load b o 1).bind fun cs => cs.head?
  | _ => none

theorem aLoad_sound {P : Program} {ty : TyT} (ok : TyOk P ty) {σ : Sig} {H : AH} {w : World} (hr : HR P σ H w) {t : TypeId} {p p' v : Value}
    (hp : VR σ p p') (h : aLoad ty H t p = some v) : ∃ rv, (Instr.loadAt t p').run P w = .ok rv w ∧ VR σ v rv := by
  unfold aLoad at h
  split at h <;> try (cases h; done)
  rename_i b o
  split at h <;> try (cases h; done)
  rename_i x hx
  cases hp
  rename_i i hi
  have hagg := run_isAgg_ty ok hx w
  have hsz := run_sizeOf_ty ok hx w
  split at h
  · rename_i hd
    rw [Option.map_eq_some_iff] at h
    obtain ⟨cs, hl, rfl⟩ := h
    obtain ⟨rs, hvs, hlen, _, hrun⟩ := hr.load hl hi
    have hrun := hrun w rfl
    refine ⟨.agg rs.toArray, ?_, .agg _ _ (by simpa using hvs)⟩
    simp [Instr.loadAt, Instr.sureAddr, loadVar, hagg, hd, hsz, hrun]
  · rename_i hd
    rw [Option.bind_eq_some_iff] at h
    obtain ⟨cs, hl, hh⟩ := h
    obtain ⟨rs, hvs, hlen, hcell, _⟩ := hr.load hl hi
    cases hvs with
    | nil => simp at hh
    | @cons a a' l l' hv hs =>
      simp at hh; subst hh
      have hc := hcell 0 a' (by simp)
      refine ⟨a', ?_, hv⟩
      simp only [Nat.add_zero] at hc
      simp [Instr.loadAt, Instr.sureAddr, loadVar, hagg, hd, hc]

/-- A row of sets. -/
def setAll (c : Array Value) (o : Nat) : List Value → Array Value
  | [] => c
  | v :: vs => setAll (c.setIfInBounds o v) (o + 1) vs

theorem setAll_size (vs : List Value) : ∀ (c : Array Value) (o : Nat), (setAll c o vs).size = c.size := by
  induction vs with
  | nil => intro c o; rfl
  | cons v vs ih => intro c o; simp [setAll, ih]

theorem splice_get? (cs : List Value) (o : Nat) (vs : List Value) (h : o + vs.length ≤ cs.length) (k : Nat) :
    (splice cs o vs)[k]? = if k < o then cs[k]? else if k < o + vs.length then vs[k - o]? else cs[k]? := by
  have hl : (cs.take o).length = o := by simp; omega
  unfold splice
  rw [List.append_assoc]
  by_cases h1 : k < o
  · rw [if_pos h1, List.getElem?_append_left (by omega), List.getElem?_take, if_pos h1]
  · rw [if_neg h1, List.getElem?_append_right (by omega), hl]
    by_cases h2 : k < o + vs.length
    · rw [if_pos h2, List.getElem?_append_left (by omega)]
    · rw [if_neg h2, List.getElem?_append_right (by omega), List.getElem?_drop]
      congr 1
      omega

theorem setAll_toList (vs : List Value) : ∀ (c : Array Value) (o : Nat), o + vs.length ≤ c.size → (setAll c o vs).toList = splice c.toList o vs := by
  induction vs with
  | nil => intro c o h; simp [setAll, splice]
  | cons v vs ih =>
    intro c o h
    simp at h
    have h2 : o + 1 + vs.length ≤ (c.setIfInBounds o v).size := by simp; omega
    rw [setAll, ih _ _ h2]
    apply List.ext_getElem?
    intro k
    rw [splice_get? _ _ _ (by simpa using h2), splice_get? _ _ _ (by simp; omega)]
    simp only [Array.toList_setIfInBounds, List.getElem?_set, Array.length_toList, List.length_cons]
    have hc : c.toList.length = c.size := by simp
    by_cases h1 : k < o
    · have e1 : k < o + 1 := by omega
      have e2 : ¬ o = k := by omega
      simp only [h1, e1, e2, if_true, if_false]
    · by_cases h3 : o = k
      · subst h3
        have e1 : o < o + (vs.length + 1) := by omega
        have e2 : o < c.size := by omega
        simp [e1, e2]
      · obtain ⟨m, rfl⟩ : ∃ m, k = o + 1 + m := ⟨k - (o + 1), by omega⟩
        have e1 : ¬ o + 1 + m < o + 1 := by omega
        have e2 : o + 1 + m - (o + 1) = m := by omega
        have e3 : o + 1 + m - o = m + 1 := by omega
        simp only [h1, e1, h3, if_false, e2, e3, List.getElem?_cons_succ]
        by_cases h4 : m < vs.length
        · have e4 : o + 1 + m < o + 1 + vs.length := by omega
          have e5 : o + 1 + m < o + (vs.length + 1) := by omega
          simp only [e4, e5, if_true]
        · have e4 : ¬ o + 1 + m < o + 1 + vs.length := by omega
          have e5 : ¬ o + 1 + m < o + (vs.length + 1) := by omega
          simp only [e4, e5, if_false]

theorem upd_upd (w : World) (r : Nat) (o o' : Obj) : upd (upd w r o) r o' = upd w r o' := by
  simp [upd]

theorem upd_self (w : World) (r : Nat) (o : Obj) (h : w.heap[r]? = some o) : upd w r o = w := by
  have hlt : r < w.heap.size := by
    rcases Nat.lt_or_ge r w.heap.size with h1 | h1
    · exact h1
    · rw [Array.getElem?_eq_none h1] at h; cases h
  have : w.heap.setIfInBounds r o = w.heap := by
    apply Array.ext_getElem?
    intro k
    rw [Array.getElem?_setIfInBounds]
    split
    · rename_i e; subst e; simp [hlt]; rw [Array.getElem?_eq_getElem hlt] at h; exact (Option.some.inj h).symm
    · rfl
  simp [upd, this]

theorem run_storeCells_upd {P : Program} (r : Nat) (e : TypeId) (fr : Nat × Nat) : ∀ (vs : List Value) (k o : Nat) (c : Array Value) (w : World),
    w.heap[r]? = some (.cells c e fr) → o + k + vs.length ≤ c.size → (fr.1 = fr.2 ∨ c.size ≤ fr.1) → (∀ v ∈ vs, v.oneCell' = true) →
    (storeCells ⟨r, o, none⟩ vs k).run P w = .ok () (upd w r (.cells (setAll c (o + k) vs) e fr)) := by
  intro vs
  induction vs with
  | nil =>
    intro k o c w hw _ _ _
    simp [storeCells, setAll, upd_self w r _ hw]
  | cons v vs ih =>
    intro k o c w hw hl hf h1
    simp at hl
    have hcell : w.cell? ⟨r, o + k, none⟩ = some (c[o + k]'(by omega)) := by
      simp [World.cell?, hw, Array.getElem?_eq_getElem (show o + k < c.size by omega)]
    have hfz : w.frozen? ⟨r, o + k, none⟩ = false := by
      simp only [World.frozen?, hw]
      rcases hf with hf | hf
      · rw [Bool.eq_false_iff]; simp [hf]
      · simp only [Bool.and_eq_false_iff, decide_eq_false_iff_not]; left; omega
    have hset : w.setCell ⟨r, o + k, none⟩ v = upd w r (.cells (c.setIfInBounds (o + k) v) e fr) := by
      have hlt : r < w.heap.size := by
        rcases Nat.lt_or_ge r w.heap.size with h1 | h1
        · exact h1
        · rw [Array.getElem?_eq_none h1] at hw; cases hw
      simp only [World.setCell, upd]
      congr 1
      apply Array.ext_getElem?
      intro j
      rw [Array.getElem?_modify, Array.getElem?_setIfInBounds]
      by_cases hj : r = j
      · subst hj
        rw [if_pos rfl, if_pos rfl, if_pos hlt, hw]
        rfl
      · rw [if_neg hj, if_neg hj]
    have hlt : r < w.heap.size := by
      rcases Nat.lt_or_ge r w.heap.size with h1 | h1
      · exact h1
      · rw [Array.getElem?_eq_none h1] at hw; cases hw
    have hih := ih (k + 1) o (c.setIfInBounds (o + k) v) (upd w r (.cells (c.setIfInBounds (o + k) v) e fr))
      (by simp [upd, Array.getElem?_setIfInBounds, hlt]) (by simp; omega) (by simpa using hf) (fun u hu => h1 u (by simp [hu]))
    simp only [storeCells, Sem.run_bind, Addr.add_lit]
    rw [run_store _ _ _ _ _ (h1 v (by simp)), hcell]
    simp only [hfz, Bool.false_eq_true, if_false, Result.andThen_ok, hset]
    rw [hih, upd_upd]
    rfl

theorem VR.oneCell {σ : Sig} {v v' : Value} (h : VR σ v v') (h1 : v.oneCell' = true) : v'.oneCell' = true := by
  cases h <;> first | rfl | (simp [Value.oneCell'] at h1)

theorem VRs.oneCell {σ : Sig} : ∀ {l l' : List Value}, VRs σ l l' → l.all (·.oneCell') = true → ∀ v ∈ l', v.oneCell' = true
  | _, _, .nil, _, v, h => by cases h
  | _, _, .cons h hs, ha, v, hm => by
    simp only [List.all_cons, Bool.and_eq_true] at ha
    cases hm with
    | head => exact h.oneCell ha.1
    | tail _ hm => exact hs.oneCell ha.2 v hm

theorem splice_drop_take (l : List Value) (b n o : Nat) (vs : List Value) (h : o + vs.length ≤ n) (hn : b + n ≤ l.length) :
    ((splice l (b + o) vs).drop b).take n = splice ((l.drop b).take n) o vs := by
  apply List.ext_getElem?
  intro k
  have hl2 : ((l.drop b).take n).length = n := by simp; omega
  rw [List.getElem?_take, List.getElem?_drop, splice_get? _ _ _ (by omega), splice_get? _ _ _ (by rw [hl2]; exact h), List.getElem?_take, List.getElem?_drop]
  by_cases hk : k < n
  · rw [if_pos hk, if_pos hk]
    by_cases h1 : k < o
    · rw [if_pos (by omega), if_pos h1]
    · rw [if_neg (by omega), if_neg h1]
      by_cases h2 : k < o + vs.length
      · rw [if_pos (by omega), if_pos h2]
        congr 1
        omega
      · rw [if_neg (by omega), if_neg h2]
  · rw [if_neg hk, if_neg hk, if_neg (by omega), if_neg (by omega)]

theorem VRs.splice {σ : Sig} {l l' vs vs' : List Value} (o : Nat) (h : VRs σ l l') (hv : VRs σ vs vs') : VRs σ (splice l o vs) (splice l' o vs') := by
  unfold Am.splice
  rw [hv.length]
  exact ((h.take o).append hv).append (h.drop _)

theorem splice_all {l vs : List Value} (o : Nat) (h : l.all (·.oneCell') = true) (h' : vs.all (·.oneCell') = true) : (splice l o vs).all (·.oneCell') = true := by
  simp only [List.all_eq_true] at *
  intro x hx
  simp only [splice, List.mem_append] at hx
  rcases hx with (hx | hx) | hx
  · exact h x (List.mem_of_mem_take hx)
  · exact h' x hx
  · exact h x (List.mem_of_mem_drop hx)

/-- What is loaded is cells. -/
theorem HR.load_one {P : Program} {σ : Sig} {H : AH} {w : World} (hr : HR P σ H w) {b o n : Nat} {cs : List Value} (h : H.load b o n = some cs) :
    cs.all (·.oneCell') = true := by
  obtain ⟨all, e, hb, hle, rfl⟩ := AH.load_some h
  have h7 : all.all (·.oneCell') = true := by
    rcases hb with hb | hb
    · obtain ⟨i, hi, hB⟩ := hr.live _ _ hb
      obtain ⟨c, e', fr, hw, h4, h2, h5, h7⟩ := hr.row (.inl hb) hi
      exact h7
    · obtain ⟨i, hi, hB⟩ := hr.live _ _ hb
      obtain ⟨c, e', fr, hw, h4, h2, h5, h7⟩ := hr.row (.inr hb) hi
      exact h7
  simp only [List.all_eq_true] at *
  intro x hx
  exact h7 x (List.mem_of_mem_drop (List.mem_of_mem_take hx))

theorem HR.store {P : Program} {σ : Sig} {H H' : AH} {w : World} (hr : HR P σ H w) {b o : Nat} {vs vs' : List Value} {i : Img}
    (h : H.store b o vs = some H') (hi : σ b = some i) (hv : VRs σ vs vs') (h1 : vs.all (·.oneCell') = true) :
    ∃ w', (storeCells ⟨i.blk, i.base + o, none⟩ vs').run P w = .ok () w' ∧ HR P σ H' w' := by
  unfold AH.store at h
  split at h <;> try (cases h; done)
  rename_i all e hb
  split at h <;> try (cases h; done)
  rename_i hle
  cases h
  have hB := hr.at hb hi
  have hlen := hv.length
  cases hw : w.heap[i.blk]? with
  | none => rw [hw] at hB; exact hB.elim
  | some ob =>
    rw [hw] at hB
    cases ob <;> try exact hB.elim
    rename_i c e' fr
    obtain ⟨h1', h2, h3, h4, h5, h6, h7⟩ := hB
    have hrun := run_storeCells_upd (P := P) i.blk e' fr vs' 0 (i.base + o) c w hw (by omega) (by rw [h2]; exact h6) (hv.oneCell h1)
    refine ⟨_, hrun, hr.upd hb rfl hi ⟨h1', by rw [setAll_size]; exact h2, h3, ?_, ?_, h6, splice_all o h7 h1⟩⟩
    · rw [splice_length hle]; exact h4
    · rw [setAll_toList _ _ _ (by simp; omega), splice_length hle]
      simp only [Nat.add_zero]
      rw [splice_drop_take _ _ _ _ _ (by omega) (by simp; omega)]
      exact h5.splice o hv

def aStore (ty : TyT) (H : AH) (t : TypeId) (p v : Value) : Option AH :=
  match p with
  | .pointer (some ⟨b, o, none⟩) =>
    match ty t with
    | none => none
    | some x => if v.cells.size = x.size ∧ v.cells.toList.all (·.oneCell') = true then H.store b o v.cells.toList else none
  | _ => none

theorem aStore_sound {P : Program} {ty : TyT} (ok : TyOk P ty) {σ : Sig} {H H' : AH} {w : World} (hr : HR P σ H w) {t : TypeId} {p p' v v' : Value}
    (hp : VR σ p p') (hv : VR σ v v') (h : aStore ty H t p v = some H') : ∃ w', (Instr.storeAt t p' v').run P w = .ok () w' ∧ HR P σ H' w' := by
  unfold aStore at h
  split at h <;> try (cases h; done)
  rename_i b o
  split at h <;> try (cases h; done)
  rename_i x hx
  split at h <;> try (cases h; done)
  rename_i hc
  cases hp
  rename_i i hi
  have hsz := run_sizeOf_ty ok hx w
  obtain ⟨w', hrun, hr'⟩ := hr.store h hi hv.cells hc.2
  have hl : v'.cells.size = x.size := by rw [← hc.1]; have := hv.cells.length; simpa using this.symm
  exact ⟨w', by simp [Instr.storeAt, Instr.sureAddr, storeVar, hsz, hl, hrun], hr'⟩

/-- A new row. -/
theorem HR.newRow {P : Program} {ty : TyT} (ok : TyOk P ty) {σ : Sig} {H : AH} {w : World} (hr : HR P σ H w) {t : TypeId} {x : Ty} (hx : ty t = some x)
    {cs : List Value} {rs : Array Value} (more : Array Value) (hv : VRs σ cs rs.toList) (hone : cs.all (·.oneCell') = true) :
    ∃ σ' w', Le σ σ' ∧ HR P σ' (H.push (.cells cs t)) w' ∧ σ' H.next = some ⟨w.heap.size, 0, (rs ++ more).size, x.size⟩ ∧
      (Go.newRow t (rs ++ more)).run P w = .ok ⟨w.heap.size, 0, none⟩ w' ∧ w' = grow w (.cells (rs ++ more) t) := by
  have hlen := hv.length
  simp at hlen
  obtain ⟨h1, h2⟩ := hr.new (.cells cs t) (.cells (rs ++ more) t) (rs ++ more).size x.size
    ⟨rfl, rfl, (cellsOf_ty ok hx).symm, by simp; omega, by simpa [hlen] using hv, .inl rfl, hone⟩
  exact ⟨_, _, h2, h1, by simp [Sig.ext], by simp [Go.newRow, grow], rfl⟩

end Go.Am
