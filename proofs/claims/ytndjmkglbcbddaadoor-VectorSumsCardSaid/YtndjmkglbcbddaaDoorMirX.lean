/- Two structs or arrays of plain cells are held against each other. No condition. -/
import Derived.Test.YtndjmkglbcbddaaDoorMirW
import Derived.DeepKeys
set_option linter.unusedVariables false
namespace Go.Mir

def partV (T : Nat → TI) (t : Nat) (cs : List AV) (off : Nat) : Option AV :=
  match (T t).k.agg with
  | true => some (.agg ((cs.drop off).take (T t).size))
  | false => cs[off]?
def andO (x : Option Bool) (y : Option Bool) : Option Bool :=
  match x with
  | some a => match y with
    | some b => some (a && b)
    | none => none
  | none => none
def eqF (T : Nat → TI) (f : Nat → AV → AV → Option Bool) (xs ys : List AV) : List (Nat × Nat) → Option Bool
  | [] => some true
  | (t, off) :: fs => match partV T t xs off with
    | some a => match partV T t ys off with
      | some b => andO (f t a b) (eqF T f xs ys fs)
      | none => none
    | none => none
def eqI (T : Nat → TI) (f : Nat → AV → AV → Option Bool) (xs ys : List AV) (e : Nat) : List Nat → Option Bool
  | [] => some true
  | i :: is => match partV T e xs (i * (T e).size) with
    | some a => match partV T e ys (i * (T e).size) with
      | some b => andO (f e a b) (eqI T f xs ys e is)
      | none => none
    | none => none
def eqV (T : Nat → TI) : Nat → Nat → AV → AV → Option Bool
  | 0, _, _, _ => none
  | d + 1, t, x, y => match (T t).k with
    | .bool => match x, y with
      | .bool a, .bool b => some (a == b)
      | _, _ => none
    | .int _ => match x, y with
      | .int k a, .int k' b => match decide (k = k') with
        | true => some (decide (a = b))
        | false => none
      | _, _ => none
    | .str => match x, y with
      | .str a, .str b => some (decide (a = b))
      | _, _ => none
    | .struct fs => match x, y with
      | .agg xs, .agg ys => eqF T (eqV T d) xs ys fs
      | _, _ => none
    | .array n e => match x, y with
      | .agg xs, .agg ys => match (T e).k with
        | .other => none
        | _ => eqI T (eqV T d) xs ys e (List.range n)
      | _, _ => none
    | _ => none

theorem andO_spec {x y : Option Bool} {r : Bool} (h : andO x y = some r) : ∃ a b, x = some a ∧ y = some b ∧ r = (a && b) := by
  unfold andO at h
  split at h
  · split at h
    · cases h; exact ⟨_, _, rfl, rfl, rfl⟩
    · cases h
  · cases h

section
variable {P : Program} {T : Nat → TI}

theorem part_sound (hT : TOk P T) {t : Nat} (ht : (T t).k ≠ .other) {w w' : World} {S : Nat → Prop} {xs : List AV} {vs : List Value} (hv : VRL w S [] xs vs) {off : Nat} {c : AV} (h : partV T t xs off = some c) :
    ∃ v, (part t ⟨vs⟩ off).run P w' = .ok v w' ∧ VR w S [] c v := by
  obtain ⟨i, d, z, hi, hu, hk, hs, hb, hz, ho⟩ := hT t ht
  unfold partV at h
  unfold part
  simp only [Sem.run_bind, run_isAgg hu hk, Result.andThen_ok]
  split at h
  · rename_i ha
    cases h
    refine ⟨.agg (Array.extract ⟨vs⟩ off (off + i.size)), ?_, ?_⟩
    · rw [ha]
      simp only [if_true, Sem.run_bind, Go.Mir.run_sizeOf hi, Result.andThen_ok, Sem.run_pure]
    · have e : (Array.extract ⟨vs⟩ off (off + i.size)) = ⟨(vs.drop off).take (T t).size⟩ := by
        apply Array.ext'
        rw [Array.toList_extract, hs]
        simp [List.extract]
      rw [e]
      refine .agg (by simp [hv.1]) fun j c v h1 h2 => ?_
      rw [List.getElem?_take] at h1 h2
      split at h1
      · rename_i hj
        rw [if_pos hj] at h2
        rw [List.getElem?_drop] at h1 h2
        exact hv.2 _ c v h1 h2
      · cases h1
  · rename_i ha
    have hlt := (List.getElem?_eq_some_iff.1 h).1
    rw [hv.1] at hlt
    refine ⟨vs[off], ?_, hv.2 off c _ h (by simp [hlt])⟩
    rw [ha]
    simp only [Bool.false_eq_true, if_false]
    have : (⟨vs⟩ : Array Value)[off]? = some vs[off] := by simp [hlt]
    rw [this]
    rfl

theorem eqV_sound (hT : TOk P T) (dd : Nat) : ∀ (m t : Nat) {x y : AV} {r : Bool}, P.keyTypeAt m t = true → eqV T m t x y = some r → ∀ {w1 w2 w : World} {S1 S2 : Nat → Prop} {a b : Value}, VR w1 S1 [] x a → VR w2 S2 [] y b →
    (Op.equalIn (dd + m) t a b).run P w = .ok r w
  | 0, t, x, y, r, _, h, _, _, _, _, _, _, _, _, _ => by simp [eqV] at h
  | m + 1, t, x, y, r, hk, h, w1, w2, w, S1, S2, a, b, ha, hb => by
    have hko : (T t).k ≠ .other := by
      intro e
      unfold eqV at h
      rw [e] at h
      cases h
    obtain ⟨i, d, z, hi, hu, hkd, hs, hby, hz, ho⟩ := hT t hko
    rw [show dd + (m + 1) = (dd + m) + 1 from rfl]
    unfold Program.keyTypeAt at hk
    rw [hu] at hk
    unfold eqV at h
    split at h
    · rename_i e
      rw [e] at hkd
      cases d <;> first | exact hkd.elim | skip
      split at h
      · cases ha with | bool => cases hb with | bool =>
        cases h
        rw [run_equalIn_bool w (dd + m) t _ _ hu]
      · cases h
    · rename_i k0 e
      rw [e] at hkd
      cases d <;> first | exact hkd.elim | skip
      split at h
      · split at h
        · rename_i hkk
          have hkk := of_decide_eq_true hkk
          subst hkk
          cases ha with | int => cases hb with | int =>
          cases h
          rw [run_equalIn_int w (dd + m) t _ _ _ _ hu]
          rfl
        · cases h
      · cases h
    · rename_i e
      rw [e] at hkd
      cases d <;> first | exact hkd.elim | skip
      split at h
      · cases ha with | str => cases hb with | str =>
        cases h
        rw [run_equalIn_string w (dd + m) t _ _ hu, eval_stringEq]
      · cases h
    · rename_i fs e
      rw [e] at hkd
      cases d <;> first | exact hkd.elim | skip
      rename_i fs'
      simp only [KOk] at hkd
      split at h
      · rename_i xs ys
        obtain ⟨vs, rfl, hvs⟩ := ha.of_agg
        obtain ⟨us, rfl, hus⟩ := hb.of_agg
        simp only [Bool.and_eq_true, Bool.not_eq_true'] at hk
        have hfs : P.fieldsOf t = fs' := by simp [Program.fieldsOf, hu]
        rw [run_equalIn_struct w (dd + m) t _ _ (by rw [hfs]; exact hu) hk.2, hfs]
        have hnames : ∀ f ∈ fs'.toList, f.name ≠ "_" ∧ P.keyTypeAt m f.type = true := by
          intro f hf
          have := Array.all_eq_true_iff_forall_mem.1 hk.1.1 f (Array.mem_toList_iff.1 hf)
          simpa only [Bool.and_eq_true, bne_iff_ne, ne_eq] using this
        rw [← hkd] at h
        clear hkd e hu hfs hk ha hb
        generalize fs'.toList = l at *
        induction l generalizing r with
        | nil =>
          simp only [List.map_nil, eqF] at h
          cases h
          simp [Op.eqFields]
        | cons f l ih =>
          simp only [List.map_cons, eqF] at h
          split at h
          · rename_i c hc
            split at h
            · rename_i c' hc'
              obtain ⟨r1, r2, h1, h2, rfl⟩ := andO_spec h
              obtain ⟨hn, hkt⟩ := hnames f (by simp)
              have hne : (T f.type).k ≠ .other := by
                intro e
                cases m with
                | zero => simp [eqV] at h1
                | succ m =>
                  unfold eqV at h1
                  rw [e] at h1
                  cases h1
              obtain ⟨v1, p1, q1⟩ := part_sound hT (w' := w) hne hvs hc
              obtain ⟨v2, p2, q2⟩ := part_sound hT (w' := w) hne hus hc'
              have h3 := eqV_sound hT dd m f.type hkt h1 (w := w) q1 q2
              have h4 := ih _ h2 (fun g hg => hnames g (by simp [hg]))
              simp only [Op.eqFields, hn, ne_eq, not_false_eq_true, if_true, Sem.run_bind, p1, p2, h3, Result.andThen_ok]
              cases r1
              · simp
              · simpa using h4
            · cases h
          · cases h
      · cases h
    · rename_i n el e
      rw [e] at hkd
      cases d <;> first | exact hkd.elim | skip
      simp only [KOk] at hkd
      rename_i n' el'
      obtain ⟨e1, e2⟩ := hkd
      rw [e1, e2] at hu
      rw [e2] at hk
      clear e1 e2
      split at h
      · rename_i xs ys
        split at h
        · cases h
        · rename_i hne
          have hne : (T el).k ≠ .other := fun e => hne e
          obtain ⟨vs, rfl, hvs⟩ := ha.of_agg
          obtain ⟨us, rfl, hus⟩ := hb.of_agg
          obtain ⟨ei, ed, ez, hei, heu, hek, hes, heb, hez, heo⟩ := hT el hne
          rw [run_equalIn_array w (dd + m) _ _ hu hei]
          have hcs : P.cellsOf el = (T el).size := by simp [Program.cellsOf, hei, hes]
          rw [hcs]
          simp only at hk
          generalize List.range n = l at *
          induction l generalizing r with
          | nil =>
            simp only [eqI] at h
            cases h
            simp [Op.eqItems]
          | cons f l ih =>
            simp only [eqI] at h
            split at h
            · rename_i c hc
              split at h
              · rename_i c' hc'
                obtain ⟨r1, r2, h1, h2, rfl⟩ := andO_spec h
                obtain ⟨v1, p1, q1⟩ := part_sound hT (w' := w) hne hvs hc
                obtain ⟨v2, p2, q2⟩ := part_sound hT (w' := w) hne hus hc'
                have h3 := eqV_sound hT dd m el hk h1 (w := w) q1 q2
                have h4 := ih _ h2
                simp only [Op.eqItems, Sem.run_bind, p1, p2, h3, Result.andThen_ok]
                cases r1
                · simp
                · simpa using h4
              · cases h
            · cases h
      · cases h
    · cases h

theorem EqTo.of (hT : TOk P T) (m : Nat) (hm : m ≤ 10000) {t : Nat} {xs ys : List AV} {r : Bool} (hk : P.keyTypeAt m t = true) (hg : P.eqGuardType P.depth t = false) (h : eqV T m t (.agg xs) (.agg ys) = some r) : EqTo P t xs ys r := by
  intro w S S' vx vy x y hx hy
  have h1 := eqV_sound hT (10000 - m) m t hk h (w := w) hx hy
  rw [show 10000 - m + m = 10000 by omega] at h1
  obtain ⟨vs, rfl, hvs⟩ := hx.of_agg
  obtain ⟨us, rfl, hus⟩ := hy.of_agg
  constructor
  · simp only [Sem.run_bind, run_eqGuard_agg w .eql t x y ⟨vs⟩ ⟨us⟩ hg, Result.andThen_ok, run_eql_struct, h1]
  · simp only [Sem.run_bind, run_eqGuard_agg w .neq t x y ⟨vs⟩ ⟨us⟩ hg, Result.andThen_ok, run_neq_struct, h1]
end
end Go.Mir
