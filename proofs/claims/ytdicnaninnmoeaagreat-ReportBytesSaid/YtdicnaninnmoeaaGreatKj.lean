/- PROVED: fasciclelaw30.ReportBytes returns true for every input, and each argument reads behind the call as it read before. No condition. -/
import Derived.Test.YtdicnaninnmoeaaGreatKi
import Derived.Test.YtdicnaninnmoeaaGreatRows
import Derived.WalkKit
import Derived.ProofKit
import Derived.OpenShut
import Derived.ShutString
import Derived.ChangeOld
import Derived.Below
import Derived.Deep.Slices
import Derived.Deep.Fields
import Derived.ChangeSame
set_option linter.unusedSectionVars false
set_option linter.unusedSimpArgs false
set_option linter.unusedVariables false
set_option linter.unnecessarySimpa false
/- The statement's example lives: run by the kernel. -/
set_option linter.unusedSimpArgs false
set_option linter.unusedSectionVars false
set_option maxRecDepth 20000
namespace Go.Am.Q
open Go Go.Am Go.Proofs
variable [F : Fr]

/-- The heap at the start: what two arguments lead to. -/
def H00 (B0 B1 : Option Blk) : AH := { next := 2, m := .n (.n .e B1 .e) B0 .e }

theorem H00_0 (B0 B1 : Option Blk) : (H00 B0 B1).get 0 = B0 := rfl
theorem H00_1 (B0 B1 : Option Blk) : (H00 B0 B1).get 1 = B1 := rfl

noncomputable def livesRun (B0 B1 : Option Blk) : Option (Ending × Option Blk × Option Blk × Bool) :=
  (callOf E (fnOf P) (purN 10) (plsOf plans) 100000 60 5 [] (H00 B0 B1)).map fun r => (r.1, r.2.get 0, r.2.get 1, Nat.ble 2 r.2.next)

omit F in
theorem lives_run : livesRun = fun B0 B1 => some (.returned (.bool true), B0, B1, true) := by kernel_rfl

theorem lives_h (B0 B1 : Option Blk) : HPure P 5 [] (H00 B0 B1) (.bool true) := by
  have h := congrFun (congrFun lives_run B0) B1
  unfold livesRun at h
  rw [Option.map_eq_some_iff] at h
  obtain ⟨⟨en, H'⟩, hc, h⟩ := h
  simp only [Prod.mk.injEq] at h
  obtain ⟨rfl, h0, h1, h2⟩ := h
  refine HPure_of rfl (callOf_sound E (fnOf_ok P) mixed (num_pure 10 (by decide)) (plsOf_ok P plans_ok) 100000 60 _ _ _ _ _ hc _ ⟨rfl, Nat.le_of_ble_eq_true h2, fun b hb => ?_⟩)
  match b, hb with
  | 0, _ => exact h0.trans (H00_0 _ _).symm
  | 1, _ => exact h1.trans (H00_1 _ _).symm

end Go.Am.Q

/- The arguments, as the abstract machine has them. -/
set_option linter.unusedSimpArgs false
set_option maxRecDepth 20000
namespace Go.Am.Q
open Go Go.Am Go.Proofs

theorem H00_ge (B0 B1 : Option Blk) {b : Nat} (h : 2 ≤ b) : (H00 B0 B1).get b = none := by
  have h0 : Nat.beq b 0 = false := by rw [← Bool.not_eq_true, Nat.beq_eq]; omega
  simp only [H00, AH.get, Tr.get, h0]
  cases h1 : Nat.beq (b % 2) 1 with
  | true =>
    have h2 : Nat.beq (b / 2) 0 = false := by rw [← Bool.not_eq_true, Nat.beq_eq]; omega
    simp only [h2]
    cases Nat.beq (b / 2 % 2) 1 <;> rfl
  | false => rfl

/-- What a slice leads to that came in: nothing, or a row of a block's cells. -/
def ArgOf (W : World) (v : Value) (k : Nat) (row : List Value) (n : Nat) : Prop :=
  (v = .slice none 0 0 ∧ row = [] ∧ n = 0) ∨
  ∃ blk off cap c t fr, v = .slice (some ⟨blk, off, none⟩) n cap ∧ W.heap[blk]? = some (.cells c t fr) ∧ n ≤ cap ∧ (cap = 0 ∨ off + cap * k ≤ c.size) ∧ row.length = n * k ∧ (c.toList.drop off).take (n * k) = row

def imgOf (blk off cap k size : Nat) : Img := if cap = 0 then ⟨blk, 0, size, k⟩ else ⟨blk, off, size, k⟩

theorem VR_arg {σ : Sig} {b blk off cap k size n : Nat} (hσ : σ b = some (imgOf blk off cap k size)) (hn : n ≤ cap) (hf : cap = 0 ∨ off + cap * k ≤ size) :
    VR σ (.slice (some ⟨b, 0, none⟩) n cap) (.slice (some ⟨blk, off, none⟩) n cap) := by
  unfold imgOf at hσ
  split at hσ
  · rename_i h0
    subst h0
    obtain rfl : n = 0 := by omega
    exact VR.slice0 b 0 off 0 _ hσ (.inl rfl)
  · rename_i h0
    have := VR.slice b 0 n cap cap _ hσ (.inl rfl) hn (by simp only; rcases hf with h | h <;> omega)
    exact this

theorem BR_arg {σ : Sig} {blk off cap k n : Nat} {c : Array Value} {t e : TypeId} {fr : Nat × Nat} {row : List Value} (hk : k = P.cellsOf e) (hn : n ≤ cap) (hf : cap = 0 ∨ off + cap * k ≤ c.size)
    (hl : row.length = n * k) (hr : (c.toList.drop off).take (n * k) = row) (hs : VRs σ row row) (ho : row.all (·.oneCell') = true) : BR P σ (imgOf blk off cap k c.size) (.ro row e) (some (.cells c t fr)) := by
  unfold imgOf
  split
  · rename_i h0
    subst h0
    obtain rfl : n = 0 := by omega
    have : row = [] := List.length_eq_zero_iff.1 (by rw [hl]; simp)
    subst this
    exact ⟨rfl, hk, by simp, .nil, rfl⟩
  · rename_i h0
    have hm : n * k ≤ cap * k := Nat.mul_le_mul_right _ hn
    refine ⟨rfl, hk, by simp only; rw [hl]; rcases hf with h | h <;> omega, ?_, ho⟩
    simp only
    rw [hl, hr]
    exact hs

/-- The blocks of the arguments. -/
def blkOf (v : Value) (row : List Value) (e : TypeId) : Option Blk :=
  match v with
  | .slice none _ _ => none
  | _ => some (.ro row e)

theorem args_laid (W : World) {v0 v1 : Value} {row0 row1 : List Value} {n0 n1 : Nat} (h0 : ArgOf W v0 8 row0 n0) (h1 : ArgOf W v1 1 row1 n1) (s0 : ∀ σ, VRs σ row0 row0) (s1 : ∀ σ, VRs σ row1 row1)
    (o0 : row0.all (·.oneCell') = true) (o1 : row1.all (·.oneCell') = true) (c0 : 8 = P.cellsOf 32) (c1 : 1 = P.cellsOf 5) :
    ∃ (σ : Sig) (sl bl : Value), @HR ⟨W⟩ P σ (H00 (blkOf v0 row0 32) (blkOf v1 row1 5)) W ∧ VRs σ [sl, bl] [v0, v1] ∧
      ((sl = .slice none 0 0 ∧ n0 = 0 ∧ row0 = []) ∨ ∃ cap, sl = .slice (some ⟨0, 0, none⟩) n0 cap ∧ blkOf v0 row0 32 = some (.ro row0 32) ∧ row0.length = n0 * 8) ∧
      ((bl = .slice none 0 0 ∧ n1 = 0 ∧ row1 = []) ∨ ∃ cap, bl = .slice (some ⟨1, 0, none⟩) n1 cap ∧ blkOf v1 row1 5 = some (.ro row1 5) ∧ row1.length = n1 * 1) := by
  have key : ∀ (σ : Sig), σ 0 = none ∨ True → ∀ (b : Nat), 2 ≤ b → (∀ b, 2 ≤ b → σ b = none) → σ b = none := fun σ _ b hb h => h b hb
  letI : Fr := ⟨W⟩
  have mk : ∀ (σ : Sig) (B0 B1 : Option Blk), (∀ b, 2 ≤ b → σ b = none) → (∀ bl, B0 = some bl → ∃ i row e, bl = .ro row e ∧ σ 0 = some i ∧ BR P σ i bl W.heap[i.blk]?) →
      (∀ bl, B1 = some bl → ∃ i row e, bl = .ro row e ∧ σ 1 = some i ∧ BR P σ i bl W.heap[i.blk]?) → HR P σ (H00 B0 B1) W := by
    intro σ B0 B1 hσ g0 g1
    have ro : ∀ b bl, (H00 B0 B1).get b = some bl → bl.isRo = true := by
      intro b bl hb
      match b with
      | 0 => obtain ⟨_, row, e, rfl, _⟩ := g0 bl hb; rfl
      | 1 => obtain ⟨_, row, e, rfl, _⟩ := g1 bl hb; rfl
      | b + 2 => rw [H00_ge _ _ (by omega)] at hb; cases hb
    refine ⟨fun b bl hb => ?_, fun b b' bl bl' i i' hb _ hr => ?_, fun b hb => hσ b hb, fun k _ => rfl, fun b bl i hb hr => ?_, rfl, rfl, rfl⟩
    · match b with
      | 0 => obtain ⟨i, _, _, _, h1, h2⟩ := g0 bl hb; exact ⟨i, h1, h2⟩
      | 1 => obtain ⟨i, _, _, _, h1, h2⟩ := g1 bl hb; exact ⟨i, h1, h2⟩
      | b + 2 => rw [H00_ge _ _ (by omega)] at hb; cases hb
    · rw [ro b bl hb] at hr; cases hr
    · rw [ro b bl hb] at hr; cases hr
  rcases h0 with ⟨rfl, rfl, rfl⟩ | ⟨blk, off, cap, c, t, fr, rfl, hw, hn, hf, hl, hr⟩
  · rcases h1 with ⟨rfl, rfl, rfl⟩ | ⟨blk', off', cap', c', t', fr', rfl, hw', hn', hf', hl', hr'⟩
    · refine ⟨fun _ => none, .slice none 0 0, .slice none 0 0, mk _ _ _ (fun _ _ => rfl) (fun bl h => by cases h) (fun bl h => by cases h), .cons .snil (.cons .snil .nil), .inl ⟨rfl, rfl, rfl⟩, .inl ⟨rfl, rfl, rfl⟩⟩
    · refine ⟨fun b => if b = 1 then some (imgOf blk' off' cap' 1 c'.size) else none, .slice none 0 0, .slice (some ⟨1, 0, none⟩) n1 cap', mk _ _ _ (fun b hb => if_neg (by omega)) (fun bl h => by cases h) (fun bl h => ?_),
        .cons .snil (.cons (VR_arg (by simp) hn' hf') .nil), .inl ⟨rfl, rfl, rfl⟩, .inr ⟨cap', rfl, rfl, hl'⟩⟩
      cases h
      refine ⟨_, row1, 5, rfl, if_pos rfl, ?_⟩
      have : (imgOf blk' off' cap' 1 c'.size).blk = blk' := by unfold imgOf; split <;> rfl
      rw [this, hw']
      exact BR_arg c1 hn' hf' hl' hr' (s1 _) o1
  · rcases h1 with ⟨rfl, rfl, rfl⟩ | ⟨blk', off', cap', c', t', fr', rfl, hw', hn', hf', hl', hr'⟩
    · refine ⟨fun b => if b = 0 then some (imgOf blk off cap 8 c.size) else none, .slice (some ⟨0, 0, none⟩) n0 cap, .slice none 0 0, mk _ _ _ (fun b hb => if_neg (by omega)) (fun bl h => ?_) (fun bl h => by cases h),
        .cons (VR_arg (by simp) hn hf) (.cons .snil .nil), .inr ⟨cap, rfl, rfl, hl⟩, .inl ⟨rfl, rfl, rfl⟩⟩
      cases h
      refine ⟨_, row0, 32, rfl, if_pos rfl, ?_⟩
      have : (imgOf blk off cap 8 c.size).blk = blk := by unfold imgOf; split <;> rfl
      rw [this, hw]
      exact BR_arg c0 hn hf hl hr (s0 _) o0
    · refine ⟨fun b => if b = 0 then some (imgOf blk off cap 8 c.size) else if b = 1 then some (imgOf blk' off' cap' 1 c'.size) else none, .slice (some ⟨0, 0, none⟩) n0 cap, .slice (some ⟨1, 0, none⟩) n1 cap',
        mk _ _ _ (fun b hb => by rw [if_neg (by omega), if_neg (by omega)]) (fun bl h => ?_) (fun bl h => ?_),
        .cons (VR_arg (by simp) hn hf) (.cons (VR_arg (by simp) hn' hf') .nil), .inr ⟨cap, rfl, rfl, hl⟩, .inr ⟨cap', rfl, rfl, hl'⟩⟩
      · cases h
        refine ⟨_, row0, 32, rfl, if_pos rfl, ?_⟩
        have : (imgOf blk off cap 8 c.size).blk = blk := by unfold imgOf; split <;> rfl
        rw [this, hw]
        exact BR_arg c0 hn hf hl hr (s0 _) o0
      · cases h
        refine ⟨_, row1, 5, rfl, by rw [if_neg (by decide), if_pos rfl], ?_⟩
        have : (imgOf blk' off' cap' 1 c'.size).blk = blk' := by unfold imgOf; split <;> rfl
        rw [this, hw']
        exact BR_arg c1 hn' hf' hl' hr' (s1 _) o1

end Go.Am.Q

/- The statement. -/
set_option linter.unusedSimpArgs false
set_option maxRecDepth 20000

namespace Go.Am.Q
open Go Go.Am Go.Proofs

theorem notes_VRs (σ : Sig) : ∀ ns : List NoteV, VRs σ (ns.flatMap NoteV.cells) (ns.flatMap NoteV.cells)
  | [] => .nil
  | n :: l => VRs.append (.cons (.int _ _) (.cons (.int _ _) (.cons (.int _ _) (.cons (.int _ _) (.cons (.int _ _) (.cons (.int _ _) (.cons (.int _ _) (.cons (.bool _) .nil)))))))) (notes_VRs σ l)

theorem u8s_VRs (σ : Sig) : ∀ bs : List UInt8, VRs σ (u8s bs) (u8s bs)
  | [] => .nil
  | _ :: l => .cons (.int _ _) (u8s_VRs σ l)

open Go.RowKit in
/-- The statement's function answers true, and keeps what was there. -/
theorem report_calls (W : World) {v0 v1 : Value} {ns : List NoteV} {bs : List UInt8} (h0 : ArgOf W v0 8 (ns.flatMap NoteV.cells) ns.length) (h1 : ArgOf W v1 1 (u8s bs) bs.length) (hok : ∀ n ∈ ns, n.Ok)
    (c0 : 8 = P.cellsOf 32) (c1 : 1 = P.cellsOf 5) : Calls P 3 #[v0, v1] W fun e w' => e = .returned (.bool true) ∧ Below W.heap.size W w' := by
  letI : Fr := ⟨W⟩
  have o0 : (ns.flatMap NoteV.cells).all (·.oneCell') = true := by
    rw [List.all_eq_true]
    intro x hx
    rw [List.mem_flatMap] at hx
    obtain ⟨n, _, hx⟩ := hx
    simp only [NoteV.cells, List.mem_cons, List.not_mem_nil, or_false] at hx
    rcases hx with rfl | rfl | rfl | rfl | rfl | rfl | rfl | rfl <;> rfl
  obtain ⟨σ, sl, bl, hr, hv, hs, hb⟩ := args_laid W h0 h1 (fun σ => notes_VRs σ ns) (fun σ => u8s_VRs σ bs) o0 (u8s_oc bs) c0 c1
  have hro : RoNotes (H00 (blkOf v0 (ns.flatMap NoteV.cells) 32) (blkOf v1 (u8s bs) 5)) sl ns := by
    rcases hs with ⟨rfl, h, _⟩ | ⟨cap, rfl, h, _⟩
    · exact .inl ⟨rfl, List.length_eq_zero_iff.1 h⟩
    · exact .inr ⟨0, cap, 32, rfl, h, Nat.zero_lt_succ _⟩
  have hby : BytesV (H00 (blkOf v0 (ns.flatMap NoteV.cells) 32) (blkOf v1 (u8s bs) 5)) bl bs := by
    rcases hb with ⟨rfl, h, _⟩ | ⟨cap, rfl, h, _⟩
    · exact .inl ⟨rfl, List.length_eq_zero_iff.1 h⟩
    · exact .inr ⟨1, 0, cap, u8s bs, rfl, .inr ⟨5, h⟩, by rw [List.drop_zero, ← u8s_length bs, List.take_length], by rw [u8s_length]; omega, Nat.lt_succ_self _⟩
  have hcall := report_walk (lives_h _ _) hro hok hby (R := fun en _ => en = .returned (.bool true)) fun _ => rfl
  refine (hcall σ W #[v0, v1] hr hv).mono ?_
  rintro e' w' ⟨σ', e, H, hle, hr', he, rfl⟩
  cases he with
  | returned _ v' hvv =>
    cases hvv
    exact ⟨rfl, hr'.same.1, hr'.same.2.2, hr'.same.2.1, hr'.size, hr'.kept⟩

/-! the arguments, opened -/

theorem flatMap_get {α : Type} (f : α → List Value) (k : Nat) (hf : ∀ x, (f x).length = k) : ∀ (l : List α) (i j : Nat), j < k → (l.flatMap f)[i * k + j]? = (l[i]?).bind fun x => (f x)[j]? := by
  intro l
  induction l with
  | nil => intro i j _; simp
  | cons a l ih =>
    intro i j hj
    cases i with
    | zero =>
      simp only [List.flatMap_cons, Nat.zero_mul, Nat.zero_add, List.getElem?_cons_zero, Option.bind_some]
      rw [List.getElem?_append_left (by rw [hf]; exact hj)]
    | succ i =>
      simp only [List.flatMap_cons, List.getElem?_cons_succ]
      have e : (i + 1) * k + j = (f a).length + (i * k + j) := by rw [hf, Nat.add_mul, Nat.one_mul]; omega
      rw [e, List.getElem?_append_right (by omega), Nat.add_sub_cancel_left]
      exact ih i j hj

theorem flatMap_len {α : Type} (f : α → List Value) (k : Nat) (hf : ∀ x, (f x).length = k) (l : List α) : (l.flatMap f).length = l.length * k := by
  induction l with
  | nil => simp
  | cons a l ih => simp only [List.flatMap_cons, List.length_append, hf, ih, List.length_cons, Nat.add_mul, Nat.one_mul]; omega

/-- A slice that came in: from its cells, each element's so many. -/
theorem argOf_cells {α : Type} (f : α → List Value) (k : Nat) (hf : ∀ x, (f x).length = k) (hk : 0 < k) {W : World} {a : Addr} {len cap : Nat} {c : Array Value} {t : TypeId} {fr : Nat × Nat} (hs : a.spot = none)
    (hw : W.heap[a.block]? = some (.cells c t fr)) (hl : len ≤ cap) {l : List α} (hll : l.length = len)
    (hc : ∀ i x, l[i]? = some x → ∀ j v, (f x)[j]? = some v → W.cell? (a.add (i * k + j)) = some v) (hlast : 0 < cap → ∃ v, W.cell? (a.add (cap * k - 1)) = some v) :
    ArgOf W (.slice (some a) len cap) k (l.flatMap f) len := by
  obtain ⟨blk, off, spot⟩ := a
  simp only at hs
  subst hs
  have cell : ∀ n v, W.cell? ((⟨blk, off, none⟩ : Addr).add n) = some v → c[off + n]? = some v := by
    intro n v h
    unfold Addr.add at h
    split at h
    · rename_i h0
      subst h0
      simpa [World.cell?, hw] using h
    · simpa [World.cell?, hw] using h
  have hfit : cap = 0 ∨ off + cap * k ≤ c.size := by
    rcases Nat.eq_zero_or_pos cap with h0 | h0
    · exact .inl h0
    · right
      obtain ⟨v, hv⟩ := hlast h0
      have := cell _ _ hv
      have hlt : off + (cap * k - 1) < c.size := by
        rcases Nat.lt_or_ge (off + (cap * k - 1)) c.size with h | h
        · exact h
        · rw [Array.getElem?_eq_none h] at this; cases this
      have : 0 < cap * k := Nat.mul_pos h0 hk
      omega
  have hfl := flatMap_len f k hf l
  refine .inr ⟨blk, off, cap, c, t, fr, rfl, hw, hl, hfit, by rw [hfl, hll], ?_⟩
  have hm : len * k ≤ cap * k := Nat.mul_le_mul_right _ hl
  have hcl : c.toList.length = c.size := by simp
  apply List.ext_getElem?
  intro n
  rcases Nat.lt_or_ge n (len * k) with hn | hn
  · have hj : n % k < k := Nat.mod_lt _ hk
    have hdm : n / k * k + n % k = n := by rw [Nat.mul_comm]; exact Nat.div_add_mod n k
    have hi : n / k < l.length := by rw [hll]; exact Nat.div_lt_of_lt_mul (by rw [Nat.mul_comm]; exact hn)
    have hfg := flatMap_get f k hf l (n / k) (n % k) hj
    rw [hdm, List.getElem?_eq_getElem hi, Option.bind_some] at hfg
    have hv : (f l[n / k])[n % k]? = some ((f l[n / k])[n % k]'(by rw [hf]; exact hj)) := List.getElem?_eq_getElem _
    rw [hfg, hv, List.getElem?_take, if_pos hn, List.getElem?_drop]
    have := cell _ _ (hc (n / k) _ (List.getElem?_eq_getElem hi) (n % k) _ hv)
    rw [hdm] at this
    simpa using this
  · have e1 : (l.flatMap f)[n]? = none := List.getElem?_eq_none (by rw [hfl, hll]; exact hn)
    rw [e1, List.getElem?_take, if_neg (by omega)]

theorem has_cells {W : World} {a : Addr} {len cap : Nat} {t e : TypeId} {base : Nat} (ht : P.underlying t = some (.slice e)) (h : Value.okWide P W .any base t (.slice (some a) len cap)) :
    len ≤ cap ∧ a.spot = none ∧ ∃ c u fr, W.heap[a.block]? = some (.cells c u fr) := by
  simp only [Value.okWide, ht, Cell.okWide, Cell.ok] at h
  obtain ⟨h1, _, _, h2, row, cells, h3, _⟩ := h
  refine ⟨h1, h2, ?_⟩
  unfold World.shape? at h3
  split at h3
  · rename_i c u fr hw
    exact ⟨_, _, _, hw⟩
  · cases h3

section
variable {H : Type} {enc : TypeId × Value → H} {w : World} {base : Nat} {spare : Nat → Bool} {held : Bool}
open Go.ChangeShapes Go.WideShapes Go.Deep

theorem open_slice_fields {t e : TypeId} {fs : Array Field} {fuel : Nat} {cs : List Value} {x : DataW H × List MemPlace} (ht : P.underlying t = some (.slice e)) (he : P.underlying e = some (.struct fs))
    (hone : oneCellFields P fs = true) (hC : P.cellsOf e = fs.size) (h : DataW.trod enc P w base spare held fuel t cs = some x) :
    (cs = [.slice none 0 0]) ∨
    ∃ (a : Addr) (len cap m : Nat), cs = [.slice (some a) len cap] ∧ len ≤ cap ∧ m = (if spare a.block then cap else len) ∧
      ∀ i, i < m → ∃ (ys : List (DataW H × List MemPlace)) (n : Nat),
        ∀ (j : Nat) (f : Field), fs[j]? = some f → ∃ (v : Value) (y : DataW H × List MemPlace), w.cell? (a.add (i * fs.size + j)) = some v ∧ ys[j]? = some y ∧ DataW.trod enc P w base spare held n f.type [v] = some y := by
  rcases open_slice ht h with h0 | ⟨a, len, cap, m, n, D, Pl, hcs, hb, hl, hm, hmm, hx, hi⟩
  · exact .inl h0.1
  · refine .inr ⟨a, len, cap, m, hcs, hl, hmm, fun i him => ?_⟩
    obtain ⟨cs', hc, ht'⟩ := hi i him
    rw [hC] at hc
    obtain ⟨ys, n', hn', hy, hlen, hyl, hf⟩ := DataW.trod_struct he ht'
    obtain ⟨_, hcl, hat⟩ := World.cells?_some hc
    refine ⟨ys, n', fun j f hj => ?_⟩
    obtain ⟨ho, hk⟩ := hone_of hone j f hj
    have hjl : j < fs.size := (Array.getElem?_eq_some_iff.1 hj).1
    have hcell := hat j hjl
    have hv : cs'[j]? = some (cs'[j]'(by omega)) := List.getElem?_eq_getElem (by omega)
    have h1 := hf j f hj
    rw [ho, hk] at h1
    have hone' : (cs'.drop j).take 1 = [cs'[j]'(by omega)] := by
      rw [List.drop_eq_getElem_cons (by omega)]
      rfl
    rw [hone'] at h1
    have hys : ys[j]? = some (ys[j]'(by omega)) := List.getElem?_eq_getElem (by omega)
    refine ⟨_, _, ?_, hys, h1.trans hys⟩
    rw [← Go.Deep.add_add, hcell, hv]

theorem open_notes {v d p b0} (hv : Value.okWide P w .any b0 22 v) (h0 : DataW.Trod enc P w 0 (fun _ => true) true 22 v d p) : ∃ ns : List NoteV, ArgOf w v 8 (ns.flatMap NoteV.cells) ns.length ∧ ∀ n ∈ ns, n.Ok := by
  obtain ⟨a0, len, cap, rfl⟩ := okWide_slice Tryz.underlying22 hv
  obtain ⟨fuel, hf⟩ := h0
  rcases open_slice_fields Tryz.underlying22 Tryz.underlying32 (by kernel_rfl) (by kernel_rfl) hf with hcs | ⟨a, len', cap', m, hcs, hl, hmm, hi⟩
  · simp [Value.cells] at hcs
    obtain ⟨rfl, rfl, rfl⟩ := hcs
    exact ⟨[], .inl ⟨rfl, rfl, rfl⟩, by simp⟩
  · simp [Value.cells] at hcs
    obtain ⟨rfl, rfl, rfl⟩ := hcs
    simp only [if_true] at hmm
    subst hmm
    obtain ⟨hlc, hs, c, u, fr, hw⟩ := has_cells Tryz.underlying22 hv
    have each : ∀ i, ∃ n : NoteV, i < m → n.Ok ∧ ∀ j x, n.cells[j]? = some x → w.cell? (a.add (i * 8 + j)) = some x := by
      intro i
      by_cases him : i < m
      · obtain ⟨ys, n', hfd⟩ := hi i him
        obtain ⟨x0, y0, e0, _, t0⟩ := hfd 0 _ rfl
        obtain ⟨x1, y1, e1, _, t1⟩ := hfd 1 _ rfl
        obtain ⟨x2, y2, e2, _, t2⟩ := hfd 2 _ rfl
        obtain ⟨x3, y3, e3, _, t3⟩ := hfd 3 _ rfl
        obtain ⟨x4, y4, e4, _, t4⟩ := hfd 4 _ rfl
        obtain ⟨x5, y5, e5, _, t5⟩ := hfd 5 _ rfl
        obtain ⟨x6, y6, e6, _, t6⟩ := hfd 6 _ rfl
        obtain ⟨x7, y7, e7, _, t7⟩ := hfd 7 _ rfl
        obtain ⟨n0, h0, _, w0⟩ := DataW.trod_int Tryz.underlying30 t0
        obtain ⟨n1, h1, _, w1⟩ := DataW.trod_int Tryz.underlying3 t1
        obtain ⟨n2, h2, _, w2⟩ := DataW.trod_int Tryz.underlying3 t2
        obtain ⟨n3, h3, _, w3⟩ := DataW.trod_int Tryz.underlying3 t3
        obtain ⟨n4, h4, _, w4⟩ := DataW.trod_int Tryz.underlying3 t4
        obtain ⟨n5, h5, _, w5⟩ := DataW.trod_int Tryz.underlying3 t5
        obtain ⟨n6, h6, _, w6⟩ := DataW.trod_int Tryz.underlying3 t6
        obtain ⟨b7, h7, _⟩ := DataW.trod_bool Tryz.underlying4 t7
        simp only [List.cons.injEq, and_true] at h0 h1 h2 h3 h4 h5 h6 h7
        subst h0 h1 h2 h3 h4 h5 h6 h7
        have r0 := bounds_u64 w0
        have r1 := bounds_i64 w1
        have r2 := bounds_i64 w2
        have r3 := bounds_i64 w3
        have r4 := bounds_i64 w4
        have r5 := bounds_i64 w5
        have r6 := bounds_i64 w6
        have z0 : ((n0.toNat : Nat) : Int) = n0 := by omega
        refine ⟨⟨n0.toNat, n1, n2, n3, n4, n5, n6, b7⟩, fun _ => ⟨⟨by simp only; omega, ⟨by simp only; omega, by simp only; omega⟩, ⟨by simp only; omega, by simp only; omega⟩, ⟨by simp only; omega, by simp only; omega⟩, ⟨by simp only; omega, by simp only; omega⟩, ⟨by simp only; omega, by simp only; omega⟩, ⟨by simp only; omega, by simp only; omega⟩⟩, fun j x hx => ?_⟩⟩
        simp only [NoteV.cells, z0] at hx
        match j, hx with
        | 0, hx => cases hx; exact e0
        | 1, hx => cases hx; exact e1
        | 2, hx => cases hx; exact e2
        | 3, hx => cases hx; exact e3
        | 4, hx => cases hx; exact e4
        | 5, hx => cases hx; exact e5
        | 6, hx => cases hx; exact e6
        | 7, hx => cases hx; exact e7
        | j + 8, hx => simp at hx
      · exact ⟨⟨0, 0, 0, 0, 0, 0, 0, false⟩, fun h => absurd h him⟩
    obtain ⟨N, hN⟩ := Classical.axiomOfChoice each
    refine ⟨(List.range len).map N, ?_, ?_⟩
    · letI : Fr := ⟨w⟩
      have hln : ((List.range len).map N).length = len := by simp
      rw [hln]
      refine argOf_cells NoteV.cells 8 NoteV.cells_length (by decide) hs hw hlc hln (fun i x hx j v hv => ?_) (fun hc => ?_)
      · rw [List.getElem?_map] at hx
        have hil : i < len := by
          rcases Nat.lt_or_ge i len with h | h
          · exact h
          · rw [List.getElem?_eq_none (by simpa using h)] at hx; cases hx
        rw [List.getElem?_range hil] at hx
        cases hx
        exact (hN i (by omega)).2 j v hv
      · have h1 := (hN (m - 1) (by omega)).2 7 _ rfl
        have e : (m - 1) * 8 + 7 = m * 8 - 1 := by omega
        rw [e] at h1
        exact ⟨_, h1⟩
    · intro n hn
      rw [List.mem_map] at hn
      obtain ⟨i, hi', rfl⟩ := hn
      rw [List.mem_range] at hi'
      exact (hN i (by omega)).1

theorem open_bytes {v d p b0} (hv : Value.okWide P w .any b0 23 v) (h0 : DataW.Trod enc P w 0 (fun _ => true) true 23 v d p) : ∃ bs : List UInt8, ArgOf w v 1 (u8s bs) bs.length := by
  obtain ⟨a0, len, cap, rfl⟩ := okWide_slice Tryz.underlying23 hv
  obtain ⟨fuel, hf⟩ := h0
  rcases open_ints Tryz.underlying23 Tryz.underlying5 (by kernel_rfl) hf with ⟨hcs, _⟩ | ⟨a, len', cap', zs, hcs, _, hl, hm, hz, _, hcell, hwz⟩
  · simp [Value.cells] at hcs
    obtain ⟨rfl, rfl, rfl⟩ := hcs
    exact ⟨[], .inl ⟨rfl, rfl, rfl⟩⟩
  · simp [Value.cells] at hcs
    obtain ⟨rfl, rfl, rfl⟩ := hcs
    simp only [if_true] at hz
    obtain ⟨hlc, hs, c, u, fr, hw⟩ := has_cells Tryz.underlying23 hv
    refine ⟨(zs.take len).map fun z => UInt8.ofNat z.toNat, ?_⟩
    have hln : ((zs.take len).map fun z => UInt8.ofNat z.toNat).length = len := by simp; omega
    rw [hln]
    have hu : ∀ l : List UInt8, u8s l = l.flatMap fun x => [Value.int .u8 (x.toNat : Int)] := by
      intro l
      induction l with
      | nil => rfl
      | cons x l ih => rw [List.flatMap_cons, ← ih]; rfl
    rw [hu]
    refine argOf_cells (fun x : UInt8 => [Value.int .u8 (x.toNat : Int)]) 1 (fun _ => rfl) (by decide) hs hw hlc hln (fun i x hx j v hv => ?_) (fun hc => ?_)
    · rw [List.getElem?_map, List.getElem?_take] at hx
      split at hx
      · rename_i hil
        have hiz : i < zs.length := by omega
        rw [List.getElem?_eq_getElem hiz] at hx
        cases hx
        have hb := bounds_u8 (hwz _ (List.getElem_mem hiz))
        have hc := hcell i hiz
        match j, hv with
        | 0, hv =>
          cases hv
          rw [Nat.mul_one, Nat.add_zero, hc]
          have e1 : zs.getD i 0 = zs[i] := by rw [List.getD_eq_getElem?_getD, List.getElem?_eq_getElem hiz]; rfl
          rw [e1]
          congr 2
          simp only [UInt8.toNat_ofNat']
          omega
        | j + 1, hv => simp at hv
      · cases hx
    · exact ⟨_, by rw [Nat.mul_one]; exact hcell (cap - 1) (by omega)⟩
end

end Go.Am.Q

namespace Go.Proofs.YtdicnaninnmoeaaGreat
open Go.ChangeShapes Go.WideShapes Go.ChangeAt Go.RowKit

theorem rb_own : ownKnob Tryz.prog.godebug = none := by kernel_rfl
theorem rb_laidOut : laidOutB Tryz.prog = true := by kernel_rfl

set_option maxRecDepth 100000 in
theorem rb_lifted (os : Os) (started : os.Started) (H : Type) (enc : TypeId × Value → H) :
    ReturnsInHanded {} Tryz.checked os 3 .any (Rows.reportBytesSpec.pre6 enc Tryz.prog Tryz.f3 Rows.reportBytesRow.domain false) (Rows.reportBytesSpec.post enc Tryz.prog Tryz.f3 false true false false) := by
  refine returnsInHanded_of_change (C := Tryz.checked) rb_own started (by kernel_rfl) Tryz.func3
    (ChangeSpec.witness6 (enc := enc) (C := Tryz.checked) false ⟨#[], #[.slice none 0 0, .slice none 0 0], []⟩ 8 (by kernel_rfl) (by kernel_rfl) (by kernel_rfl) (by kernel_rfl)) ?_
  intro W base args ds gs before hval0 hW hcnd _
  have hval : ∀ (j : Nat) t v, Tryz.f3.params[j]? = some t → args[j]? = some v → Value.okWide Tryz.prog W .any base t v := hval0
  have hW' := hW
  obtain ⟨p, q, hA0, hV, rfl, hfz, hnd⟩ := hW
  have hA : DataW.TrodAll enc Tryz.prog W 0 (fun _ => true) true Tryz.f3.params.toList args.toList ds p := hA0
  rw [Tryz.params3] at hA hval
  obtain ⟨v0, vs0, d0, ds0, p0, q0, hargs, rfl, rfl, h0, r0⟩ := trodAll_cons hA
  obtain ⟨v1, vs1, d1, ds1, p1, q1, rfl, rfl, rfl, h1, r1⟩ := trodAll_cons r0
  obtain ⟨rfl, rfl, rfl⟩ := trodAll_nil r1
  obtain rfl : args = #[v0, v1] := by cases args; simp_all
  obtain ⟨rfl, rfl⟩ := trodVars_none hV
  have k0 := h0
  have k1 := h1
  have lt0 : ∀ x ∈ p0, x.block < W.heap.size := by obtain ⟨m, hm⟩ := k0; exact DataW.trod_lt m _ _ _ hm
  have lt1 : ∀ x ∈ p1, x.block < W.heap.size := by obtain ⟨m, hm⟩ := k1; exact DataW.trod_lt m _ _ _ hm
  obtain ⟨ns, a0, hok⟩ := Go.Am.Q.open_notes (hval 0 22 v0 rfl rfl) h0
  obtain ⟨bs, a1⟩ := Go.Am.Q.open_bytes (hval 1 23 v1 rfl rfl) h1
  clear hA0 hval0
  refine (Go.Am.Q.report_calls W a0 a1 hok (by kernel_rfl) (by kernel_rfl)).mono fun e W' ⟨he, bel⟩ => ?_
  subst he
  exact ⟨_, rfl, _, _, _, [], _, [], hW', trodAll_mk1 (shut_bool Tryz.underlying4 _), (trodAll_cons_mk (Below.trod rb_laidOut (by kernel_rfl) (of_decide_eq_true (by kernel_rfl)) k0 bel lt0)
    (trodAll_cons_mk (Below.trod rb_laidOut (by kernel_rfl) (of_decide_eq_true (by kernel_rfl)) k1 bel lt1) trodAll_mk0)), rfl, bel.frame _, fun h => by cases h⟩

theorem reportBytes_holds : Rows.ReportBytesSaid :=
  OpenClaim.holds_of_wide 3 Tryz.f3 rfl rfl rfl rfl rfl rfl rfl ⟨rfl, rfl, rfl, rfl, rfl⟩ rfl rfl rfl rfl rfl (by kernel_rfl) Tryz.func3 (by kernel_rfl)
    (of_decide_eq_true (by kernel_rfl)) (by unfold Func.isWrapper; first | (rw [if_pos (by decide +kernel)]; kernel_rfl) | (rw [if_neg (by decide +kernel)]; exact ⟨rfl, rfl⟩))
    (fun os started H enc _ => rb_lifted os started H enc)

end Go.Proofs.YtdicnaninnmoeaaGreat
#print axioms Go.Proofs.YtdicnaninnmoeaaGreat.reportBytes_holds
