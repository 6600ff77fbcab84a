/- Part of the proof: an abstract machine of our own over the model; no condition. -/
import Derived.Test.YtdicnaninnmoeaaGreatAmJ
set_option linter.unusedSectionVars false
set_option linter.unusedSimpArgs false
set_option linter.unusedVariables false
set_option linter.unnecessarySimpa false
/- The abstract machine, part J2: operations that read are sound. -/
namespace Go.Am
open Go
variable [F : Fr]

variable {P : Program} {σ : Sig} {H : AH} {w : World}

theorem run_value {s : Sem Value} {v : Value} {w w' : World} (h : s.run P w = .ok v w') : ((do pure (.value (← s))) : Sem Next).run P w = .ok (.value v) w' := by
  simp [h]

theorem VRs.array {l : List Value} {a : Array Value} {f : Operand → Value} {xs : Array Operand} (h : VRs σ l (xs.toList.map f)) : VRs σ l.toArray.toList (xs.map f).toList := by
  simpa using h

theorem bytesOf_VRs : ∀ {l l' : List Value} {s : ByteArray}, VRs σ l l' → bytesOf l = some s → bytesOf l' = some s
  | [], _, s, .nil, h => h
  | v :: l, _, s, .cons (v' := v') hv hs, h => by
    unfold bytesOf at h
    split at h <;> try (cases h; done)
    · rename_i heq; cases heq
    · rename_i n l0 heq
      cases heq
      rw [Option.map_eq_some_iff] at h
      obtain ⟨s0, h0, rfl⟩ := h
      cases hv
      simp [bytesOf, bytesOf_VRs hs h0]

theorem builtin_value {b : Builtin} {c : Call} {ρ : Operand → Value} {ty : TypeId} (hc : c.callee = .builtin b) {s : Sem Value} {rv : Value} {w w' : World}
    (hb : ∀ k, builtin b c.argTypes ty k (c.args.map ρ) = (do pure (.value (← s)))) (h : s.run P w = .ok rv w') :
    ((do let d ← resolve ρ c ty; invoke d.target d.args) : Sem Next).run P w = .ok (.value rv) w' := by
  simp only [resolve, hc, Sem.run_bind, Sem.run_pure, Result.andThen_ok, invoke, hb, h]

theorem callFunc_value {f : FuncId} {c : Call} {ρ : Operand → Value} {ty : TypeId} (hc : c.callee = .value (.func f)) (hρ : ρ (.func f) = .func (.func f) #[] #[]) {n : Next} {w w' : World}
    (h : (callFunc f (c.args.map ρ)).run P w = .ok n w') : ((do let d ← resolve ρ c ty; invoke d.target d.args) : Sem Next).run P w = .ok n w' := by
  simp only [resolve, hc, hρ, Deferred.ofValue, Sem.run_bind, Sem.run_pure, Result.andThen_ok, invoke, Array.empty_append, Array.append_empty, h]

theorem VRs.one {v : Value} {l' : List Value} (h : VRs σ [v] l') : ∃ v', l' = [v'] ∧ VR σ v v' := by
  cases h with
  | cons h hs => cases hs; exact ⟨_, rfl, h⟩

theorem VRs.two {v u : Value} {l' : List Value} (h : VRs σ [v, u] l') : ∃ v' u', l' = [v', u'] ∧ VR σ v v' ∧ VR σ u u' := by
  cases h with
  | cons h hs =>
    obtain ⟨u', rfl, h2⟩ := hs.one
    exact ⟨_, _, rfl, h, h2⟩

theorem run_loadBytes (b : Nat) : ∀ (l' : List Value) (o : Nat) (acc s : ByteArray), bytesOf l' = some s → (∀ (j : Nat) (v : Value), l'[j]? = some v → w.cell? ⟨b, o + j, none⟩ = some v) →
    (Extern.Bytes.loadBytes ⟨b, o, none⟩ l'.length acc).run P w = .ok (acc ++ s) w := by
  intro l'
  induction l' with
  | nil =>
    intro o acc s h _
    simp [bytesOf] at h
    subst h
    simp [Extern.Bytes.loadBytes]
  | cons v l ih =>
    intro o acc s h hc
    unfold bytesOf at h
    split at h <;> try (cases h; done)
    · rename_i heq; cases heq
    · rename_i n l0 heq
      cases heq
      rw [Option.map_eq_some_iff] at h
      obtain ⟨s0, h0, rfl⟩ := h
      have h1 := hc 0 _ rfl
      simp only [Nat.add_zero] at h1
      have h2 := ih (o + 1) (acc.push n.toNat.toUInt8) s0 h0 (fun j v e => by
        have := hc (j + 1) v (by simpa using e)
        rwa [show o + (j + 1) = o + 1 + j from by omega] at this)
      simp only [List.length_cons, Extern.Bytes.loadBytes, Sem.run_bind, run_load, h1, Result.andThen_ok, Addr.add_lit]
      rw [h2]
      congr 1
      apply ByteArray.ext
      simp [ByteArray.data_append, ByteArray.data_push, Array.append_assoc]

theorem opCallR_sound (E : Env P) {a' : Act} {c : Call} {vs : List Value} {v : Value} (hr : HR P σ H w) (ha : VRs σ vs (c.args.toList.map a'.eval)) (h : opCallR E H c vs = some v) (t : TypeId) :
    ∃ rv, ((do let d ← resolve a'.eval c t; invoke d.target d.args) : Sem Next).run P w = .ok (.value rv) w ∧ VR σ v rv := by
  have hmap : ∀ l, c.args.toList.map a'.eval = l → c.args.map a'.eval = l.toArray := by
    intro l hl
    apply Array.ext'
    simpa using hl
  unfold opCallR at h
  split at h <;> try (cases h; done)
  · rename_i x hc
    split at h <;> try (cases h; done)
    rename_i t1 ht1
    obtain ⟨x', hx', hv⟩ := ha.one
    obtain ⟨rv, hrun, hv'⟩ := aLen_sound E.ok hr (ty' := t) hv h
    refine ⟨rv, builtin_value hc ?_ hrun, hv'⟩
    have e1 : c.argTypes = #[t1] := by apply Array.ext'; simpa using ht1
    intro k
    rw [hmap _ hx', e1]
    rfl
  · rename_i x xs hc
    cases ha' : c.args.toList.map a'.eval with
    | nil => rw [ha'] at ha; cases ha
    | cons y ys =>
      rw [ha'] at ha
      cases ha with
      | cons h1 hs =>
        obtain ⟨hrun, hv⟩ := foldInt_min (P := P) (w := w) _ _ _ _ _ h1 hs h
        refine ⟨v, builtin_value hc ?_ hrun, hv⟩
        intro k
        rw [hmap _ ha']
        rfl
  · rename_i x xs hc
    cases ha' : c.args.toList.map a'.eval with
    | nil => rw [ha'] at ha; cases ha
    | cons y ys =>
      rw [ha'] at ha
      cases ha with
      | cons h1 hs =>
        obtain ⟨hrun, hv⟩ := foldInt_max (P := P) (w := w) _ _ _ _ _ h1 hs h
        refine ⟨v, builtin_value hc ?_ hrun, hv⟩
        intro k
        rw [hmap _ ha']
        rfl
  · rename_i f x hc
    obtain ⟨x', hx', hv⟩ := ha.one
    split at h <;> try (cases h; done)
    · rename_i b hext
      cases h; cases hv
      refine ⟨_, callFunc_value hc rfl ?_, .int _ _⟩
      rw [hmap _ hx', E.hext f _ hext]
      rfl
    · rename_i n hext
      cases h; cases hv
      refine ⟨_, callFunc_value hc rfl ?_, .float _ _⟩
      rw [hmap _ hx', E.hext f _ hext]
      rfl
  · rename_i f x y hc
    obtain ⟨x', y', hx', hvx, hvy⟩ := ha.two
    split at h <;> try (cases h; done)
    rename_i a n cap cc hext
    cases hvy
    have hb : ∀ rv, (Extern.BytealgIndexByte.indexByte #[x', .int .u8 cc]).run P w = .ok rv w → 
        ((do let d ← resolve a'.eval c t; invoke d.target d.args) : Sem Next).run P w = .ok (.value rv) w := by
      intro rv hrun
      refine callFunc_value hc rfl ?_
      rw [hmap _ hx', E.hext f _ hext]
      simp [hrun]
    have fin : ∀ s : ByteArray, (Extern.Bytes.bytesOf x').run P w = .ok s w →
        (Extern.BytealgIndexByte.indexByte #[x', .int .u8 cc]).run P w = .ok (.int .i64 (idxByte s (UInt8.ofNat cc.toNat))) w := by
      intro s hs
      have e : Extern.BytealgIndexByte.indexByte #[x', .int .u8 cc] = (do
          let b ← Extern.Bytes.bytesOf x'
          let c ← Extern.Bytes.asByte (.int .u8 cc)
          match (List.range b.size).find? fun i => b[i]! == c with
          | some i => pure (goInt i)
          | none => pure (goInt (-1))) := rfl
      rw [e]
      simp only [Sem.run_bind, hs, Result.andThen_ok, Extern.Bytes.asByte, Sem.run_pure, idxByte]
      have : cc.toNat.toUInt8 = UInt8.ofNat cc.toNat := rfl
      rw [this]
      cases (List.find? (fun i => s[i]! == UInt8.ofNat cc.toNat) (List.range s.size)) <;> rfl
    split at h
    · rename_i hn
      cases h
      subst hn
      have h0 : (Extern.Bytes.bytesOf x').run P w = .ok .empty w := by
        cases hvx <;> simp [Extern.Bytes.bytesOf, Extern.Bytes.loadBytes]
      refine ⟨_, hb _ (fin _ h0), ?_⟩
      have : idxByte ByteArray.empty (UInt8.ofNat cc.toNat) = -1 := by simp [idxByte]
      rw [this]
      exact .int _ _
    · rename_i hn
      split at h <;> try (cases h; done)
      rename_i b o
      rw [Option.bind_eq_some_iff] at h
      obtain ⟨cs, hl, h⟩ := h
      rw [Option.map_eq_some_iff] at h
      obtain ⟨s', hbs, rfl⟩ := h
      cases hvx with
      | slice _ _ _ _ cap' im hσ hcc hl' hsz =>
        obtain ⟨rs, hv, hlen, hcell, _⟩ := hr.load hl hσ
        have h0 : (Extern.Bytes.bytesOf (.slice (some ⟨im.blk, im.base + o, none⟩) n cap')).run P w = .ok s' w := by
          have hrl : rs.length = n := by rw [← hv.length]; exact hlen
          have := run_loadBytes (P := P) (w := w) im.blk rs (im.base + o) .empty s' (bytesOf_VRs hv hbs) (fun j v e => by simpa [Nat.add_assoc] using hcell j v e)
          rw [hrl] at this
          simpa [Extern.Bytes.bytesOf] using this
        exact ⟨_, hb _ (fin _ h0), .int _ _⟩
      | slice0 => exact absurd rfl hn

theorem aNilNil_sound {P : Program} {ty : TyT} (ok : TyOk P ty) {σ : Sig} {w : World} {op : BinOp} {t : TypeId} {ox oy : Operand} {x y x' y' v : Value} (hx : VR σ x x') (hy : VR σ y y')
    (h : aNilNil ty op t ox oy x y = some v) : ((do eqGuard op t ox oy x' y'; binOp op t x' y') : Sem Value).run P w = .ok v w ∧ ∀ σ, VR σ v v := by
  unfold aNilNil at h
  split at h <;> try (cases h; done)
  rename_i hc
  split at h <;> try (cases h; done)
  rename_i d hd
  split at h <;> try (cases h; done)
  rename_i ms hi
  cases hx; cases hy
  have hu := run_underlying_ty ok hd w
  have hcc : (∃ v, ox = .const v) ∨ (∃ v, oy = .const v) := by
    rw [Bool.or_eq_true] at hc
    rcases hc with hc | hc
    · left; unfold isNilC at hc; split at hc <;> first | exact ⟨_, rfl⟩ | cases hc
    · right; unfold isNilC at hc; split at hc <;> first | exact ⟨_, rfl⟩ | cases hc
  have hg : (eqGuard op t ox oy .nilIface .nilIface).run P w = .ok () w := by
    rcases hcc with ⟨v, rfl⟩ | ⟨v, rfl⟩ <;> cases op <;> simp [eqGuard]
  have he : (Op.equal t .nilIface .nilIface).run P w = .ok true w := by
    unfold Op.equal Op.maxDepth
    rw [show (10000 : Nat) = 9999 + 1 from rfl, Op.equalIn]
    simp [hu, hi]
  split at h <;> try (cases h; done)
  · cases h
    exact ⟨by rw [binOp_eql rfl]; simp [hg, he], fun σ => .bool _⟩
  · cases h
    exact ⟨by rw [binOp_neq rfl]; simp [hg, he], fun σ => .bool _⟩

theorem aTypeAssert_sound {P : Program} {ty : TyT} (ok : TyOk P ty) {σ : Sig} {w : World} {x x' v : Value} {xt t : TypeId} {b : Bool} (hx : VR σ x x')
    (h : aTypeAssert ty x t b = some v) : ∃ rv, (Instr.typeAssert x' xt t b).run P w = .ok rv w ∧ VR σ v rv := by
  unfold aTypeAssert at h
  split at h <;> try (cases h; done)
  rename_i d hd
  have hu := run_underlying_ty ok hd w
  have hz := run_zeroValue_ty ok hd w
  have hzz := zero_VR ok hd σ
  have two : ∀ {u u' : Value} (b : Bool), VR σ u u' → VR σ (.tuple #[u, .bool b]) (.tuple #[u', .bool b]) := fun b hu => .tuple _ _ (.cons hu (.cons (.bool _) .nil))
  split at h <;> try (cases h; done)
  · rename_i hdi
    cases h; cases hx
    refine ⟨_, ?_, two false hzz⟩
    unfold Instr.typeAssert
    cases hdd : d.desc <;> first | exact absurd hdd (hdi _) | simp [hu, hdd, hz, *]
  · rename_i u vu hdi
    cases hx with
    | iface _ _ vu' hvu =>
    split at h
    · rename_i ht
      cases h
      refine ⟨_, ?_, two true hvu⟩
      unfold Instr.typeAssert
      cases hdd : d.desc <;> first | exact absurd hdd (hdi _) | simp [hu, hdd, hz, *]
    · rename_i ht
      cases h
      refine ⟨_, ?_, two false hzz⟩
      unfold Instr.typeAssert
      cases hdd : d.desc <;> first | exact absurd hdd (hdi _) | simp [hu, hdd, hz, *]
  · rename_i u vu hdi
    cases hx with
    | iface _ _ vu' hvu =>
    split at h <;> try (cases h; done)
    rename_i ht
    cases h
    refine ⟨_, ?_, hvu⟩
    unfold Instr.typeAssert
    cases hdd : d.desc <;> first | exact absurd hdd (hdi _) | simp [hu, hdd, hz, *]

theorem opR_sound (E : Env P) {a : AAct} {a' : Act} {o : Oper} {v : Value} (hr : HR P σ H w) (ha : AR σ a a') (h : opR E a H o = some v) :
    ∃ rv, (execOp a'.eval o).run P w = .ok (.value rv) w ∧ VR σ v rv := by
  unfold opR at h
  unfold execOp
  split at h <;> try (cases h; done)
  · rename_i x ho
    exact ⟨_, by simp [ho], ev_VR ha h⟩
  · rename_i x ho
    exact ⟨_, by simp [ho], ev_VR ha h⟩
  · rename_i c x y ho
    split at h <;> try (cases h; done)
    · rename_i hc
      have hv := ev_VR ha hc
      refine ⟨_, ?_, ev_VR ha h⟩
      simp only [ho]
      generalize a'.eval c = u at hv
      cases hv
      simp [asBool]
    · rename_i hc
      have hv := ev_VR ha hc
      refine ⟨_, ?_, ev_VR ha h⟩
      simp only [ho]
      generalize a'.eval c = u at hv
      cases hv
      simp [asBool]
  · rename_i t parts ho
    rw [Option.bind_eq_some_iff] at h
    obtain ⟨ps, hps, h⟩ := h
    obtain ⟨rv, hrun, hv⟩ := aBuild_sound (w := w) (parts' := parts.map fun p => (p.1, a'.eval p.2)) E.ok (by simpa using evParts_PRs ha hps) h
    exact ⟨rv, by simp only [ho]; exact run_value hrun, hv⟩
  · rename_i t x ho
    rw [Option.bind_eq_some_iff] at h
    obtain ⟨p, hp, h⟩ := h
    obtain ⟨rv, hrun, hv⟩ := aLoad_sound E.ok hr (ev_VR ha hp) h
    exact ⟨rv, by simp only [ho]; exact run_value hrun, hv⟩
  · rename_i x ho
    split at h <;> try (cases h; done)
    · rename_i p hp
      cases h
      have hv := ev_VR ha hp
      simp only [ho]
      generalize a'.eval x = u at hv
      cases hv with
      | ptr b o i hσ => exact ⟨_, rfl, .ptr _ _ _ hσ⟩
    · rename_i f u v hp
      cases h
      have hv := ev_VR ha hp
      simp only [ho]
      generalize a'.eval x = u at hv
      cases hv with
      | func _ f f' c c' hf hc => exact ⟨_, rfl, .func _ _ _ _ _ hf hc⟩
  · rename_i op t x y yt ho
    rw [Option.bind_eq_some_iff] at h
    obtain ⟨u, hu, h⟩ := h
    rw [Option.bind_eq_some_iff] at h
    obtain ⟨u2, hu2, h⟩ := h
    split at h
    · rename_i r hr
      cases h
      obtain ⟨hrun, hv⟩ := aNilNil_sound (w := w) E.ok (ev_VR ha hu) (ev_VR ha hu2) hr
      exact ⟨v, by simp only [ho]; exact run_value hrun, hv σ⟩
    obtain ⟨hrun, hv⟩ := aBin_sound (w := w) E.ok E.hok x y (ev_VR ha hu) (ev_VR ha hu2) h
    exact ⟨v, by simp only [ho]; exact run_value hrun, hv⟩
  · rename_i x xt t ok ho
    rw [Option.bind_eq_some_iff] at h
    obtain ⟨u, hu, h⟩ := h
    obtain ⟨rv, hrun, hv⟩ := aTypeAssert_sound (w := w) E.ok (xt := xt) (ev_VR ha hu) h
    exact ⟨rv, by simp only [ho]; exact run_value hrun, hv⟩
  · rename_i op t x ho
    rw [Option.bind_eq_some_iff] at h
    obtain ⟨u, hu, h⟩ := h
    obtain ⟨hrun, hv⟩ := aUn_sound (P := P) (w := w) (ev_VR ha hu) h
    exact ⟨v, by simp only [ho]; exact run_value hrun, hv⟩
  · rename_i src dst x ho
    rw [Option.bind_eq_some_iff] at h
    obtain ⟨u, hu, h⟩ := h
    obtain ⟨rv, hrun, hv⟩ := aConvert_sound E.ok hr (ev_VR ha hu) h
    exact ⟨rv, by simp only [ho]; exact run_value hrun, hv⟩
  · rename_i t x ho
    split at h <;> try (cases h; done)
    rename_i d hd
    have hu := run_underlying_ty E.ok hd w
    split at h <;> try (cases h; done)
    rename_i hni
    rw [Option.map_eq_some_iff] at h
    obtain ⟨u, hu2, rfl⟩ := h
    refine ⟨.iface t (a'.eval x), ?_, .iface _ _ _ (ev_VR ha hu2)⟩
    simp only [ho]
    refine run_value ?_
    unfold Instr.makeInterface
    simp only [Sem.run_bind, hu, Result.andThen_ok]
    rfl
  · rename_i fn first captured ho
    rw [Option.bind_eq_some_iff] at h
    obtain ⟨u, hu, h⟩ := h
    rw [Option.map_eq_some_iff] at h
    obtain ⟨u2, hu2, rfl⟩ := h
    exact ⟨_, by simp only [ho]; rfl, .func _ _ _ _ _ (by simpa using evs_VRs ha hu) (by simpa using evs_VRs ha hu2)⟩
  · rename_i t x lo hi mx ho
    rw [Option.bind_eq_some_iff] at h
    obtain ⟨u, hu, h⟩ := h
    rw [Option.bind_eq_some_iff] at h
    obtain ⟨l, hl, h⟩ := h
    rw [Option.bind_eq_some_iff] at h
    obtain ⟨hh, hhh, h⟩ := h
    rw [Option.bind_eq_some_iff] at h
    obtain ⟨m, hm, h⟩ := h
    obtain ⟨rv, hrun, hv⟩ := aSlice_sound E.ok hr (ev_VR ha hu) (evO_OVR ha hl) (evO_OVR ha hhh) (evO_OVR ha hm) h
    exact ⟨rv, by simp only [ho]; exact run_value hrun, hv⟩
  · rename_i t x f ho
    rw [Option.bind_eq_some_iff] at h
    obtain ⟨p, hp, h⟩ := h
    obtain ⟨rv, hrun, hv⟩ := aFieldAddr_sound (w := w) E.ok (ev_VR ha hp) h
    exact ⟨rv, by simp only [ho]; exact run_value hrun, hv⟩
  · rename_i t x f ho
    rw [Option.bind_eq_some_iff] at h
    obtain ⟨p, hp, h⟩ := h
    obtain ⟨rv, hrun, hv⟩ := aField_sound E.ok (ev_VR ha hp) h w
    exact ⟨rv, by simp only [ho]; exact run_value hrun, hv⟩
  · rename_i t x i ho
    rw [Option.bind_eq_some_iff] at h
    obtain ⟨p, hp, h⟩ := h
    rw [Option.bind_eq_some_iff] at h
    obtain ⟨q, hq, h⟩ := h
    obtain ⟨rv, hrun, hv⟩ := aIndexAddr_sound (w := w) E.ok (ev_VR ha hp) (ev_VR ha hq) h
    exact ⟨rv, by simp only [ho]; exact run_value hrun, hv⟩
  · rename_i t x i ho
    rw [Option.bind_eq_some_iff] at h
    obtain ⟨p, hp, h⟩ := h
    rw [Option.bind_eq_some_iff] at h
    obtain ⟨q, hq, h⟩ := h
    obtain ⟨rv, hrun, hv⟩ := aIndex_sound E.ok (ev_VR ha hp) (ev_VR ha hq) h w
    exact ⟨rv, by simp only [ho]; exact run_value hrun, hv⟩
  · rename_i x i ho
    rw [Option.bind_eq_some_iff] at h
    obtain ⟨p, hp, h⟩ := h
    obtain ⟨rv, hrun, hv⟩ := aExtract_sound (P := P) (ev_VR ha hp) h w
    exact ⟨rv, by simp only [ho]; exact run_value hrun, hv⟩
  · rename_i c ho
    rw [Option.bind_eq_some_iff] at h
    obtain ⟨vs, hvs, h⟩ := h
    obtain ⟨rv, hrun, hv⟩ := opCallR_sound E hr (evs_VRs ha hvs) h o.type
    exact ⟨rv, by simp only [ho]; exact hrun, hv⟩

end Go.Am
