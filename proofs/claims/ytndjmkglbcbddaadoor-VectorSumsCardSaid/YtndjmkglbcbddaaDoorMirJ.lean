/- That each operation does what 'opEff' says: values that are built. No condition. -/
import Derived.Test.YtndjmkglbcbddaaDoorMirI
set_option linter.unusedVariables false
namespace Go.Mir

section
variable {P : Program} {T : Nat → TI} {g : Option Bool} {w : World} {X : Nat → Prop} {m : Nat} {E : List Slot} {hp : List Obj} {a : Act} {ev : Operand → AV} {o : Oper}

theorem fold_set (off : Nat) : ∀ (l : List Value) (k : Nat) (p q r : List Value), p.length = off + k → q.length = l.length →
    (l.zipIdx k).foldl (fun (cs : Array Value) (c : Value × Nat) => cs.setIfInBounds (off + c.2) c.1) ⟨p ++ q ++ r⟩ = ⟨p ++ l ++ r⟩
  | [], k, p, q, r, hp, hq => by
    have : q = [] := List.eq_nil_of_length_eq_zero hq
    subst this
    simp
  | v :: l, k, p, q, r, hp, hq => by
    match q, hq with
    | [], hq => simp at hq
    | x :: q, hq =>
      simp only [List.zipIdx_cons, List.foldl_cons]
      have e : (⟨p ++ (x :: q) ++ r⟩ : Array Value).setIfInBounds (off + k) v = ⟨(p ++ [v]) ++ q ++ r⟩ := by
        apply Array.ext'
        simp only [Array.toList_setIfInBounds]
        rw [List.append_assoc, List.set_append_right _ _ (by omega), ← hp]
        simp
      rw [e, fold_set off l (k + 1) (p ++ [v]) q r (by simp; omega) (by simpa using hq)]
      simp

theorem fill_at {place : Nat → Option (Nat × Nat)} {p q r : List Value} {i off size : Nat} {v : Value} {rest : List (Nat × Value)} (h : place i = some (off, size)) (hv : v.cells.size = size) (hp : p.length = off) (hq : q.length = size) :
    Instr.fill place ⟨p ++ q ++ r⟩ ((i, v) :: rest) = Instr.fill place ⟨p ++ v.cells.toList ++ r⟩ rest := by
  have hs : (v.cells.zipIdx.foldl (fun (cs : Array Value) (x : Value × Nat) => cs.setIfInBounds (off + x.2) x.1) ⟨p ++ q ++ r⟩) = ⟨p ++ v.cells.toList ++ r⟩ := by
    rw [← Array.foldl_toList, Array.toList_zipIdx]
    exact fold_set off v.cells.toList 0 p q r (by omega) (by simp; omega)
  rw [Instr.fill]
  simp only [h]
  rw [if_neg (by simp; omega)]
  exact congrArg (fun x => Instr.fill place x rest) hs

/-- The parts, related. -/
def PartsR (w : World) (S : Nat → Prop) (E : List Slot) (ps : List (Nat × AV)) (vs : List (Nat × Value)) : Prop :=
  ps.length = vs.length ∧ ∀ (j : Nat) p v, ps[j]? = some p → vs[j]? = some v → p.1 = v.1 ∧ VR w S E p.2 v.2

theorem buildE_sound {S : Nat → Prop} {place : Nat → Option (Nat × Nat)} {pl : Nat → Option (Nat × Nat)} (hpl : ∀ i ft off, place i = some (ft, off) → pl i = some (off, (T ft).size)) :
    ∀ {ps : List (Nat × AV)} {vs : List (Nat × Value)} {cs : List AV} {xs : List Value} {K : List AV → Prop}, buildE T place cs ps K → PartsR w S E ps vs → VRL w S E cs xs →
      ∃ cs' xs', K cs' ∧ Instr.fill pl ⟨xs⟩ vs = some ⟨xs'⟩ ∧ VRL w S E cs' xs' ∧ cs'.length = cs.length
  | [], vs, cs, xs, K, h, hp, hv => by
    have : vs = [] := List.eq_nil_of_length_eq_zero hp.1.symm
    subst this
    exact ⟨cs, xs, h, rfl, hv, rfl⟩
  | (i, c) :: ps, [], cs, xs, K, h, hp, hv => by have := hp.1; simp at this
  | (i, c) :: ps, (i', v) :: vs, cs, xs, K, h, hp, hv => by
    obtain ⟨rfl, hcv⟩ := hp.2 0 (i, c) (i', v) rfl rfl
    simp only [buildE] at h
    split at h
    · exact h.elim
    · rename_i ft off e
      obtain ⟨fl, ⟨hl, h⟩, hc⟩ := flat_spec h
      obtain ⟨p, q, r, rfl, hp', hq, h⟩ := splice_spec h
      obtain ⟨vpq, vr, rfl, hpq, hr⟩ := hv.split
      obtain ⟨vp, vq, rfl, hpp, hqq⟩ := hpq.split
      have hcells := flat_cells hcv hc
      obtain ⟨cs', xs', hk, hf, hv', hlen⟩ := buildE_sound hpl h ⟨by have := hp.1; simpa using this, fun j p v h1 h2 => hp.2 (j + 1) p v (by simpa using h1) (by simpa using h2)⟩ ((hpp.app hcells).app hr)
      refine ⟨cs', xs', hk, ?_, hv', by rw [hlen]; simp; omega⟩
      rw [fill_at (hpl _ _ _ e) (by have := hcells.1; simp at this; omega) (by rw [← hpp.1]; exact hp') (by rw [← hqq.1]; omega)]
      exact hf

theorem stripParts_spec (hg : g = none ∨ g = some true) {S : Nat → Prop} : ∀ {ps : List (Nat × AV)} {vs : List (Nat × Value)} {K : List (Nat × AV) → Prop}, stripParts g ps K → PartsR w S E ps vs → ∃ ps', K ps' ∧ PartsR w S E ps' vs
  | [], vs, K, h, hv => ⟨[], h, hv⟩
  | (i, c) :: ps, [], K, h, hv => by have := hv.1; simp at this
  | (i, c) :: ps, (i', v) :: vs, K, h, hv => by
    obtain ⟨e, hc⟩ := hv.2 0 (i, c) (i', v) rfl rfl
    obtain ⟨c', h', hc'⟩ := strip_spec hg h hc
    obtain ⟨ps', h'', hps⟩ := stripParts_spec hg (ps := ps) (vs := vs) h' ⟨by have := hv.1; simpa using this, fun j p v h1 h2 => hv.2 (j + 1) p v (by simpa using h1) (by simpa using h2)⟩
    refine ⟨(i, c') :: ps', h'', by simp [hps.1], fun j p v h1 h2 => ?_⟩
    cases j with
    | zero => simp at h1 h2; subst h1 h2; exact ⟨e, hc'⟩
    | succ j => exact hps.2 j p v (by simpa using h1) (by simpa using h2)

theorem parts_rel (hev : ∀ x, VR w (SX X E hp) E (ev x) (a.eval x)) (ps : Array (Nat × Operand)) : PartsR w (SX X E hp) E (parts ev ps.toList) (ps.map fun (i, x) => (i, a.eval x)).toList := by
  refine ⟨by simp [parts], fun j p v h1 h2 => ?_⟩
  simp only [parts, List.getElem?_map, Option.map_eq_some_iff] at h1
  simp only [Array.toList_map, List.getElem?_map, Option.map_eq_some_iff] at h2
  obtain ⟨x, e1, rfl⟩ := h1
  obtain ⟨y, e2, rfl⟩ := h2
  rw [e1] at e2
  cases e2
  exact ⟨rfl, hev _⟩

theorem zero_run (hT : TOk P T) {t : Nat} (ht : (T t).k ≠ .other) : ∃ z, (zeroValue t).run P w = .ok z w ∧ z.cells.size = (T t).size ∧ (∀ w S E, VRL w S E (T t).zero z.cells.toList) ∧ ((T t).k.agg = false → z.oneCell' = true) := by
  obtain ⟨i, d, z, hi, hu, hk, hs, hb, hz, hl, hcl, h⟩ := hT t ht
  refine ⟨z, run_zeroValue hi hz w, ?_, ?_, ?_⟩
  · rcases h with ⟨ha, vs, rfl, hv⟩ | ⟨ha, ho, c, hc, hv⟩
    · have := (hv default (fun _ => False) []).1
      simp [Value.cells, ← hl, this]
    · rw [cells_one ho, ← hl, hc]
      rfl
  · rcases h with ⟨ha, vs, rfl, hv⟩ | ⟨ha, ho, c, hc, hv⟩
    · exact hv
    · intro w S E
      rw [cells_one ho, hc]
      exact .one (hv w S E)
  · rcases h with ⟨ha, vs, rfl, hv⟩ | ⟨ha, ho, c, hc, hv⟩
    · intro h; rw [ha] at h; cases h
    · exact fun _ => ho

theorem allKnown_spec : ∀ {fs : List (Nat × Nat)} {p : Prop}, allKnown T fs p → (∀ f ∈ fs, (T f.1).k ≠ .other) ∧ p
  | [], p, h => ⟨fun _ h => (by cases h), h⟩
  | (t, o) :: fs, p, h => by
    obtain ⟨h1, h2⟩ := known_spec h
    obtain ⟨h3, h4⟩ := allKnown_spec h2
    exact ⟨fun f hf => by
      rcases List.mem_cons.1 hf with rfl | hf
      · exact h1
      · exact h3 f hf, h4⟩

theorem mapM_places (hT : TOk P T) : ∀ (fs : List Field), (∀ f ∈ fs, (T f.type).k ≠ .other) →
    (fs.mapM (fun f => do pure (f.offset, ← sizeOf f.type) : Field → Sem (Nat × Nat))).run P w = .ok (fs.map fun f => (f.offset, (T f.type).size)) w
  | [], _ => rfl
  | f :: fs, h => by
    obtain ⟨i, d, z, hi, hu, hk, hs, hb, hz, ho⟩ := hT f.type (h f (by simp))
    have ih := mapM_places hT fs fun f' hf => h f' (by simp [hf])
    simp only [List.mapM_cons, Sem.run_bind, run_sizeOf hi, Result.andThen_ok, Sem.run_pure, hs, ih, List.map_cons]

theorem build_run (hT : TOk P T) (hg : g = none ∨ g = some true) (hev : ∀ x, VR w (SX X E hp) E (ev x) (a.eval x)) {t : Nat} {ps : Array (Nat × Operand)} {K : AV → Prop}
    (h : known (T t) <| partsKnown T (T t) <| stripParts g (parts ev ps.toList) fun ps' => copyL (T t).zero fun z => buildE T (placeOf T (T t)) z ps' fun cs => K (.agg cs)) :
    ∃ val v, K val ∧ (Instr.build t (ps.map fun (i, x) => (i, a.eval x))).run P w = .ok v w ∧ VR w (SX X E hp) E val v := by
  obtain ⟨hk, h⟩ := known_spec h
  obtain ⟨z, hz, hzs, hzv, _⟩ := zero_run (w := w) hT hk
  obtain ⟨d, hu, hkd⟩ := hT.desc hk
  unfold partsKnown at h
  split at h
  · rename_i fs e
    rw [e] at hkd
    cases d <;> first | exact hkd.elim | skip
    rename_i fs'
    simp only [KOk] at hkd
    obtain ⟨hfs, h⟩ := allKnown_spec h
    obtain ⟨ps', h, hps⟩ := stripParts_spec hg h (parts_rel hev ps)
    have h := copyL_spec h
    obtain ⟨cs', xs', hk', hf, hv, _⟩ := buildE_sound (T := T) (pl := fun i => (fs'.toList.map fun f => (f.offset, (T f.type).size)).toArray[i]?) (fun i ft off hpl => by
      unfold placeOf at hpl
      rw [e] at hpl
      simp only at hpl
      rw [← hkd] at hpl
      simp only [List.getElem?_map, Option.map_eq_some_iff] at hpl
      obtain ⟨f, hf, he⟩ := hpl
      cases he
      simp [hf]) h hps (hzv w (SX X E hp) E)
    refine ⟨_, .agg ⟨xs'⟩, hk', ?_, hv.agg⟩
    have hm := mapM_places (w := w) hT fs'.toList (fun f hf => hfs (f.type, f.offset) (by rw [← hkd]; exact List.mem_map.2 ⟨f, hf, rfl⟩))
    simp only [Instr.build, Sem.run_bind, hz, Result.andThen_ok, run_underlying hu]
    rw [← Array.toArray_toList (xs := fs'), List.mapM_toArray]
    simp only [Sem.run_map, hm, Result.andThen_ok]
    simp only [hf, Sem.run_pure]
  · rename_i n el e
    rw [e] at hkd
    cases d <;> first | exact hkd.elim | skip
    simp only [KOk] at hkd
    rw [hkd.1, hkd.2] at hu
    obtain ⟨hke, h⟩ := known_spec h
    obtain ⟨ei, ed, ez, hei, heu, hek, hes, heb, hez, heo⟩ := hT el hke
    obtain ⟨ps', h, hps⟩ := stripParts_spec hg h (parts_rel hev ps)
    have h := copyL_spec h
    obtain ⟨cs', xs', hk', hf, hv, _⟩ := buildE_sound (T := T) (pl := fun i => some (i * (T el).size, (T el).size)) (fun i ft off hpl => by
      unfold placeOf at hpl
      rw [e] at hpl
      simp only at hpl
      split at hpl
      · cases hpl; rfl
      · cases hpl) h hps (hzv w (SX X E hp) E)
    refine ⟨_, .agg ⟨xs'⟩, hk', ?_, hv.agg⟩
    simp only [Instr.build, Sem.run_bind, hz, Result.andThen_ok, run_underlying hu, run_sizeOf hei, hes]
    simp only [Array.toArray_toList] at hf ⊢
    simp only [hf, Sem.run_pure]
  · exact h.elim
end
end Go.Mir
