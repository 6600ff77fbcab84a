/- Part of the proof: an abstract machine of our own over the model; no condition. -/
import Derived.Test.YtdicnaninnmoeaaGreatAmJ2
import Derived.Lib.MakeNoZero
set_option linter.unusedSectionVars false
set_option linter.unusedSimpArgs false
set_option linter.unusedVariables false
set_option linter.unnecessarySimpa false
/- The abstract machine, part K: operations that lay or write memory. -/
namespace Go.Am
open Go
variable [F : Fr]

variable {P : Program} {ty : TyT} {σ : Sig} {H : AH} {w : World}

/-! copy -/

def aCopy (ty : TyT) (H : AH) (t : TypeId) (d x : Value) : Option (Value × AH) :=
  match ty t, d with
  | some dt, .slice a dLen _ =>
    match dt.desc with
    | .slice e =>
      match ty e with
      | none => none
      | some y =>
        match x with
        | .slice xa xl xc =>
          let n := Nat.min xl dLen
          if n = 0 then some (.int .i64 0, H) else
          match xa, a with
          | some ⟨xb, xo, none⟩, some ⟨b, o, none⟩ => (H.load xb xo (n * y.size)).bind fun cs => (H.store b o cs).map fun H' => (.int .i64 n, H')
          | _, _ => none
        | .string s =>
          if y.size = 1 ∧ s.size ≤ dLen ∧ s.size ≠ 0 then
            match a with
            | some ⟨b, o, none⟩ => (H.store b o (strCells s)).map fun H' => (.int .i64 s.size, H')
            | _ => none
          else none
        | _ => none
    | _ => none
  | _, _ => none

/-! string to bytes -/

def aBytes (ty : TyT) (H : AH) (src dst : TypeId) (x : Value) : Option (Value × AH) :=
  match ty src, ty dst, x with
  | some s, some d, .string str =>
    match s.desc, d.desc with
    | .string, .slice e =>
      match ty e with
      | some y =>
        match y.desc with
        | .int .u8 => if y.size = 1 then some (.slice (some ⟨H.next, 0, none⟩) str.size unk, H.push (.cells (strCells str) e)) else none
        | _ => none
      | none => none
    | _, _ => none
  | _, _, _ => none

theorem strCells_one (s : ByteArray) : (strCells s).all (·.oneCell') = true := by
  simp only [strCells, List.all_map, List.all_eq_true]
  intro x _
  rfl

theorem HR.freeze (hr : HR P σ H w) {b : Nat} {cs : List Value} {e : TypeId} {i : Img} (hb : H.get b = some (.cells cs e)) (hi : σ b = some i) {off : Nat} (ho : i.size ≤ off) :
    HR P σ H (w.freeze { block := i.blk, off := off } 1) := by
  have hB := hr.at hb hi
  have hlt := hr.blk_lt hb hi
  cases hw : w.heap[i.blk]? with
  | none => rw [hw] at hB; exact hB.elim
  | some ob =>
    rw [hw] at hB
    cases ob <;> try exact hB.elim
    rename_i c e' fr
    obtain ⟨h1, h2, h3, h4, h5, h6, h7⟩ := hB
    obtain ⟨lo, hi'⟩ := fr
    have hB' : BR P σ i (.cells cs e) (some (.cells c e' (if lo == hi' then (off, off + 1) else (min lo off, max hi' (off + 1))))) := by
      refine ⟨h1, h2, h3, h4, h5, ?_, h7⟩
      split
      · right; exact ho
      · rename_i hne
        right
        simp at h6 hne
        rcases h6 with h6 | h6
        · exact absurd h6 hne
        · simp; omega
    have := hr.upd hb rfl hi hB'
    have this := this.ext (H' := H) (fun k => by
      by_cases hk : k = b
      · subst hk; rw [AH.get_set_same, hb]
      · rw [AH.get_set_ne _ _ _ _ hk]) rfl
    refine this.congr ?_ (by simp only [World.freeze, Am.upd]; exact ⟨rfl, rfl, rfl⟩)
    simp only [World.freeze, Am.upd]
    rw [if_neg (by decide)]
    apply Array.ext_getElem?
    intro k
    rw [Array.getElem?_modify, Array.getElem?_setIfInBounds]
    by_cases hk : i.blk = k
    · subst hk
      rw [if_pos rfl, if_pos rfl, if_pos hlt, hw]
      rfl
    · rw [if_neg hk, if_neg hk]

theorem aBytes_sound (ok : TyOk P ty) (hr : HR P σ H w) {src dst : TypeId} {x x' v : Value} {H' : AH} (hx : VR σ x x') (h : aBytes ty H src dst x = some (v, H')) :
    GV P σ H' v ((convert src dst x').run P w) := by
  unfold aBytes at h
  split at h <;> try (cases h; done)
  rename_i s d str hs hd
  split at h <;> try (cases h; done)
  rename_i e hse hde
  split at h <;> try (cases h; done)
  rename_i y hy
  split at h <;> try (cases h; done)
  rename_i hye
  split at h <;> try (cases h; done)
  rename_i hsz
  cases h
  cases hx
  have hus := run_underlying_ty ok hs w
  have hud := run_underlying_ty ok hd w
  have huy := run_underlying_ty ok hy w
  -- the capacity
  have hc := cut_appendCap str.size 0 e (w.tape w.drawn (Question.appendCap str.size 0 e))
  generalize hcap : (Question.appendCap str.size 0 e).cut (w.tape w.drawn (Question.appendCap str.size 0 e)) = cap at hc
  have hr1 : HR P σ H w.drew := hr.congr rfl ⟨rfl, rfl, rfl⟩
  have hlen : (strCells str).length = str.size := by simp [strCells]
  obtain ⟨σ', w', hle, hr', hσ, hrun, hw'⟩ := hr1.newRow ok hy (cs := strCells str) (rs := str.data.map fun b : UInt8 => Value.int .u8 b.toNat) (Array.replicate (cap - str.size) (Value.int .u8 0))
    (by simpa [strCells] using VRs_ints σ (fun b : UInt8 => (b.toNat : Int)) str.data.toList) (strCells_one str)
  have hsize : ((str.data.map fun b : UInt8 => Value.int .u8 b.toNat) ++ Array.replicate (cap - str.size) (Value.int .u8 0)).size = cap := by
    have : str.data.size = str.size := rfl
    simp
    omega
  rw [hsize] at hσ
  have hv := VR.slice (σ := σ') H.next 0 str.size unk cap _ hσ (.inr rfl) hc (by simp [hsz])
  simp only [Nat.zero_add] at hv
  -- the mark behind its end
  have hfr : HR P σ' (H.push (.cells (strCells str) e)) (w'.freeze { block := w.heap.size, off := cap } 1) :=
    hr'.freeze (cs := strCells str) (e := e) (by simp) hσ (Nat.le_refl _)
  refine ⟨σ', _, w'.freeze { block := w.heap.size, off := cap } 1, ?_, hle, hfr, hv⟩
  have hshape : w'.shape? w.heap.size = some (e, cap) := by
    rw [hw']
    simp only [World.shape?, grow]
    have : w.drew.heap = w.heap := rfl
    rw [this]
    simp [hsize]
  have hconv : (convert src dst (.string str)).run P w = (Conv.stringToBytes e str).run P w := by
    simp [convert, hus, hud, hse, hde, huy, hye]
  rw [hconv]
  have hdw : ({ w with drawn := w.drawn + 1 } : World) = w.drew := rfl
  simp only [Conv.stringToBytes, Sem.run_bind, run_choose, Question.forced, Bool.false_eq_true, if_false, Result.andThen_ok, hcap, hdw, hrun]
  simp only [markStringish, Sem.run_bind, run_shape, Result.andThen_ok]
  have : w.drew.heap.size = w.heap.size := rfl
  rw [this, hshape]
  rfl

theorem aCopy_sound (ok : TyOk P ty) (hr : HR P σ H w) {t t1 rt : TypeId} {d d' x x' v : Value} {H' : AH} (hd : VR σ d d') (hx : VR σ x x')
    (h : aCopy ty H t d x = some (v, H')) : GV P σ H' v ((Builtin.copy_ #[t, t1] rt #[d', x']).run P w) := by
  unfold aCopy at h
  split at h <;> try (cases h; done)
  rename_i dt a dLen cap hdt
  have hu := run_underlying_ty ok hdt w
  split at h <;> try (cases h; done)
  rename_i e hde
  split at h <;> try (cases h; done)
  rename_i y hy
  have hsz := run_sizeOf_ty ok hy w
  obtain ⟨ra, cap', rfl⟩ : ∃ ra cap', d' = .slice ra dLen cap' := by
    cases hd <;> exact ⟨_, _, rfl⟩
  split at h <;> try (cases h; done)
  · rename_i xa xl xc
    obtain ⟨rxa, xcap', rfl⟩ : ∃ ra cap', x' = .slice ra xl cap' := by
      cases hx <;> exact ⟨_, _, rfl⟩
    simp only at h
    split at h
    · rename_i hn
      cases h
      have e0 : (loadCells · 0 : Addr → Sem (Array Value)) = fun _ => pure #[] := rfl
      have hfc : (Builtin.firstCells y.size 0 (.slice rxa xl xcap')).run P w = .ok #[] w := by
        cases rxa <;> simp [Builtin.firstCells, loadCells, loadCellsFrom]
      refine ⟨σ, .int .i64 0, w, ?_, Le.refl _, hr, .int _ _⟩
      cases ra <;> simp [Builtin.copy_, hu, hde, hsz, Builtin.lenOf, hn, hfc, storeCells, goInt]
    · rename_i hn
      split at h <;> try (cases h; done)
      rename_i xb xo b o
      rw [Option.bind_eq_some_iff] at h
      obtain ⟨cs, hl, h⟩ := h
      rw [Option.map_eq_some_iff] at h
      obtain ⟨H2, hst, h⟩ := h
      cases h
      obtain ⟨rs, hvs, hfc⟩ : ∃ rs : Array Value, VRs σ cs rs.toList ∧ (Builtin.firstCells y.size (Nat.min xl dLen) (.slice rxa xl xcap')).run P w = .ok rs w := by
        cases hx with
        | slice _ _ _ _ cap2 im hσ hc hl' hs =>
          obtain ⟨rs, hv, _, _, hrun⟩ := hr.load hl hσ
          exact ⟨rs.toArray, by simpa using hv, by simp [Builtin.firstCells, hrun w rfl]⟩
        | slice0 => simp at hn
      have hone := hr.load_one hl
      cases hd with
      | slice _ _ _ _ cap2 im hσ hc hl' hs =>
        obtain ⟨w', hrun, hr'⟩ := hr.store (P := P) hst hσ hvs hone
        refine ⟨σ, .int .i64 (Nat.min xl dLen), w', ?_, Le.refl _, hr', .int _ _⟩
        simp [Builtin.copy_, hu, hde, hsz, Builtin.lenOf, hfc, hrun, goInt]
      | slice0 => simp at hn
  · rename_i s
    split at h <;> try (cases h; done)
    rename_i hc
    split at h <;> try (cases h; done)
    rename_i b o
    rw [Option.map_eq_some_iff] at h
    obtain ⟨H2, hst, h⟩ := h
    cases h
    cases hx
    have hmin : Nat.min s.size dLen = s.size := Nat.min_eq_left hc.2.1
    have hfull : s.extract 0 s.size = s := by
      apply ByteArray.ext
      simp [ByteArray.extract_zero_size]
    have hvs : VRs σ (strCells s) (s.data.map fun b : UInt8 => Value.int .u8 b.toNat).toList := by
      simpa [strCells] using VRs_ints σ (fun b : UInt8 => (b.toNat : Int)) s.data.toList
    cases hd with
    | slice _ _ _ _ cap2 im hσ hcc hl' hs =>
      obtain ⟨w', hrun, hr'⟩ := hr.store (P := P) hst hσ hvs (strCells_one s)
      refine ⟨σ, .int .i64 s.size, w', ?_, Le.refl _, hr', .int _ _⟩
      have hfc : (Builtin.firstCells y.size s.size (.string s)).run P w = .ok (s.data.map fun b : UInt8 => Value.int .u8 b.toNat) w := by
        simp only [Builtin.firstCells, hfull]
        rfl
      simp only [Builtin.copy_, Sem.run_bind, hu, hde, hsz, Builtin.lenOf, Sem.run_pure, Result.andThen_ok, hmin, hfc]
      simp only [List.getElem?_toArray, List.getElem?_cons_zero, List.getElem?_cons_succ, Sem.run_bind, Result.andThen_ok, hu, hde, hsz, hmin, hfc, hrun, Sem.run_pure, goInt]
    | slice0 => simp at hc

/-! make -/

def aMakeSlice (ty : TyT) (H : AH) (t : TypeId) (l c : Value) : Option (Value × AH) :=
  match ty t, intOf? l, intOf? c with
  | some d, some l, some c =>
    match d.desc with
    | .slice e =>
      match ty e with
      | some y =>
        if y.size ≠ 0 ∧ y.bytes ≤ 4096 ∧ 0 ≤ l ∧ l ≤ c ∧ c ≤ 4294967296 then
          some (.slice (some ⟨H.next, 0, none⟩) l.toNat c.toNat, H.push (.cells (zeroRow y (c.toNat * y.size)).toList e))
        else none
      | none => none
    | _ => none
  | _, _, _ => none

theorem aMakeSlice_sound (ok : TyOk P ty) (hr : HR P σ H w) {t : TypeId} {l c l' c' v : Value} {H' : AH} (hl : VR σ l l') (hc : VR σ c c')
    (h : aMakeSlice ty H t l c = some (v, H')) : GV P σ H' v ((Instr.makeSlice t l' c').run P w) := by
  unfold aMakeSlice at h
  split at h <;> try (cases h; done)
  rename_i d li ci hd hli hci
  obtain ⟨k1, rfl⟩ := intOf?_VR hl hli
  obtain ⟨k2, rfl⟩ := intOf?_VR hc hci
  split at h <;> try (cases h; done)
  rename_i e hde
  split at h <;> try (cases h; done)
  rename_i y hy
  split at h <;> try (cases h; done)
  rename_i hcond
  cases h
  obtain ⟨hs0, hb, h0, h1, h2⟩ := hcond
  have hu := run_underlying_ty ok hd w
  have hz := fun w => run_zeroValue_ty ok hy w
  have hsz := fun w => run_sizeOf_ty ok hy w
  obtain ⟨info, hI, hi1, hi2, hi3⟩ := (ok e y hy).ex
  have hinf : ∀ w, (typeInfo e).run P w = .ok info w := fun w => by simp [typeInfo, hI]
  have hwl : IntKind.i64.wrap li = li := wrap64_of h0 (by omega)
  have hwc : IntKind.i64.wrap ci = ci := wrap64_of (by omega) h2
  obtain ⟨n, rfl⟩ := Int.eq_ofNat_of_zero_le h0
  obtain ⟨m, rfl⟩ := Int.eq_ofNat_of_zero_le (show 0 ≤ ci by omega)
  have hmul : m * y.bytes ≤ 4294967296 * 4096 := Nat.mul_le_mul (by omega) hb
  have h3 : ((m * y.bytes : Nat) : Int) = (y.bytes : Int) * (m : Int) := by rw [Nat.mul_comm]; simp
  have hle : ¬ ((281474976710656 : Int) < (info.bytes : Int) * (m : Int)) := by rw [hi2]; omega
  have hnm : n ≤ m := by omega
  obtain ⟨σ', w', hle', hr', hσ, hrun, _⟩ := hr.newRow ok hy (cs := (zeroRow y (m * y.size)).toList) (rs := zeroRow y (m * y.size)) #[] (zeroRow_VRs ok hy σ _) (zeroRow_one ok hy _)
  simp only [Array.append_empty] at hrun hσ
  have hsz2 : (zeroRow y (m * y.size)).size = m * y.size := by simp [zeroRow]
  rw [hsz2] at hσ
  have hv := VR.slice (σ := σ') H.next 0 n m m _ hσ (.inl rfl) hnm (by simp)
  simp only [Nat.zero_add] at hv
  refine ⟨σ', _, w', ?_, hle', hr', hv⟩
  have e1 : ¬ ((m : Int) < 0) := by omega
  have e2 : ¬ ((n : Int) < 0) := by omega
  have e3 : ¬ ((m : Int) < (n : Int)) := by omega
  by_cases hm0 : m * y.size = 0
  · have hrow : zeroRow y (m * y.size) = #[] := by simp [zeroRow, hm0]
    rw [hrow] at hrun
    have hemp : ∀ g : Nat → Value, Array.map g (Array.range 0) = #[] := fun g => by simp
    simp [Instr.makeSlice, hemp, hu, hde, asInt, asIntOf, hwl, hwc, hinf, e1, e2, e3, hle, hsz, hm0, hrun, hnm]
  · have hrow : (Array.range (m * y.size)).map (fun k => y.zero.cells[k % y.zero.cells.size]!) = zeroRow y (m * y.size) := rfl
    simp [Instr.makeSlice, hu, hde, asInt, asIntOf, hwl, hwc, hinf, e1, e2, e3, hle, hsz, hm0, hz, hnm] at hrow ⊢
    rw [hrow, hrun]
    rfl

/-! bytes of which nothing is known -/

def aNoZero (ty : TyT) (H : AH) (t : TypeId) (n : Nat) : Option (Value × AH) :=
  match ty t with
  | none => none
  | some d =>
    match d.desc with
    | .slice e =>
      match ty e with
      | none => none
      | some y => if y.size = 1 ∧ n ≤ 4294967296 then some (.slice (some ⟨H.next, 0, none⟩) n unk, H.push (.cells (List.replicate n (.chan none)) e)) else none
    | _ => none

theorem digits_list : ∀ (n t : Nat) (acc : Array Value), ∃ l : List Value, l.length = n ∧ (∀ v ∈ l, ∃ k : Int, v = .int .u8 k) ∧ (Extern.BytealgMakeNoZero.digits n t acc) = acc ++ l.toArray
  | 0, _, acc => ⟨[], rfl, by simp, by simp [Extern.BytealgMakeNoZero.digits]⟩
  | n + 1, t, acc => by
    obtain ⟨l, h1, h2, h3⟩ := digits_list n (t / 256) (acc.push (.int .u8 (Int.ofNat (t % 256))))
    refine ⟨.int .u8 (Int.ofNat (t % 256)) :: l, by simp [h1], ?_, ?_⟩
    · intro v hv
      rw [List.mem_cons] at hv
      rcases hv with rfl | hv
      · exact ⟨_, rfl⟩
      · exact h2 v hv
    · rw [Extern.BytealgMakeNoZero.digits, h3]
      apply Array.ext'
      simp

theorem VRs_any {σ : Sig} : ∀ (l : List Value), (∀ v ∈ l, ∃ k : Int, v = .int .u8 k) → VRs σ (List.replicate l.length (.chan none)) l
  | [], _ => .nil
  | v :: l, h => by
    obtain ⟨k, rfl⟩ := h v (by simp)
    exact .cons (.any _ _) (VRs_any l fun u hu => h u (by simp [hu]))

theorem aNoZero_sound (ok : TyOk P ty) (hr : HR P σ H w) {ps : Array TypeId} {t : TypeId} {n : Nat} {v : Value} {H' : AH} (h : aNoZero ty H t n = some (v, H')) :
    GV P σ H' v ((Extern.BytealgMakeNoZero.makeNoZero ps #[t] #[.int .i64 n]).run P w) := by
  unfold aNoZero at h
  split at h <;> try (cases h; done)
  rename_i d hd
  split at h <;> try (cases h; done)
  rename_i e hde
  split at h <;> try (cases h; done)
  rename_i y hy
  split at h <;> try (cases h; done)
  rename_i hc
  cases h
  obtain ⟨hsz, hn⟩ := hc
  have hund : P.underlying t = some (.slice e) := by rw [← hde]; exact (ok t d hd).und
  have hdef : Extern.BytealgMakeNoZero.makeNoZero ps #[t] #[.int .i64 n] =
      (do
        let .slice elem ← underlying t | stuck "bytealg.MakeNoZero: slice type expected"
        if (n : Int) < 0 || (n : Int) > 2 ^ 48 then runtimePanic (.error "makeslice: len out of range")
        let cap ← choose (.appendCap (n : Int).toNat 0 elem)
        askRoom cap
        let bytes ← choose (.extern "internal/bytealg.MakeNoZero.bytes" 0)
        let a ← newRow elem (Extern.BytealgMakeNoZero.digits cap bytes #[])
        pure (.slice (some a) (n : Int).toNat cap)) := rfl
  have hcap : n ≤ grownCap w n 0 e := by simpa using grownCap_ge w n 0 e
  have h1 : ¬ (n : Int) < 0 := by omega
  have h2 : ¬ (281474976710656 : Int) < (n : Int) := by omega
  obtain ⟨l, hl1, hl2, hl3⟩ := digits_list (grownCap w n 0 e) ((Question.extern "internal/bytealg.MakeNoZero.bytes" 0).cut (w.tape (w.drawn + 1) (.extern "internal/bytealg.MakeNoZero.bytes" 0))) #[]
  simp only [Array.empty_append] at hl3
  have hrun0 : (Extern.BytealgMakeNoZero.makeNoZero ps #[t] #[.int .i64 n]).run P w = .ok (.slice (some ⟨w.heap.size, 0, none⟩) n l.length) (w.drew.drew.alloc (.cells l.toArray e)) := by
    rw [hdef, hl1, ← hl3]
    simp [run_underlying hund, h1, h2, Question.forced, newRow, grownCap]
  have hr2 : HR P σ H w.drew.drew := hr.congr rfl ⟨rfl, rfl, rfl⟩
  have hlt : (l.take n).length = n := by simp; omega
  have hany : VRs σ (List.replicate n (.chan none)) (l.take n) := by
    have := VRs_any (σ := σ) (l.take n) fun v hv => hl2 v (List.mem_of_mem_take hv)
    rwa [hlt] at this
  obtain ⟨σ', w', hle, hr', hσ, hrun, hw'⟩ := hr2.newRow ok hy (cs := List.replicate n (.chan none)) (rs := (l.take n).toArray) (l.drop n).toArray (by simpa using hany)
    (by rw [List.all_replicate]; simp; exact .inr rfl)
  have hcat : (l.take n).toArray ++ (l.drop n).toArray = l.toArray := by
    apply Array.ext'
    simp
  rw [hcat] at hσ hrun hw'
  have hv := VR.slice (σ := σ') H.next 0 n unk l.length _ hσ (.inr rfl) (by omega) (by simp [hsz])
  simp only [Nat.zero_add] at hv
  refine ⟨σ', _, w', ?_, hle, hr', hv⟩
  rw [hrun0, hw']
  rfl

end Go.Am
