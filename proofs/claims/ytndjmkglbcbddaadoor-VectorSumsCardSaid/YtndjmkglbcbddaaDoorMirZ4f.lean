/- Frames as trees, for the evaluator. No condition. -/
import Derived.Test.YtndjmkglbcbddaaDoorMirZ5a
set_option linter.unusedVariables false
namespace Go.Mir
noncomputable section

inductive Fr : Type 1
  | nil
  | leaf (v : AV)
  | node (k : Nat) (l r : Fr)
def Fr.list : Fr → List AV
  | .nil => []
  | .leaf v => [v]
  | .node _ l r => l.list ++ r.list
def Fr.wf : Fr → Prop
  | .nil => True
  | .leaf _ => True
  | .node k l r => l.wf ∧ r.wf ∧ k = l.list.length
def Fr.get (t : Fr) : Nat → Option AV :=
  Fr.rec (motive := fun _ => Nat → Option AV) (fun _ => none) (fun v n => Nat.rec (motive := fun _ => Option AV) (some v) (fun _ _ => none) n)
    (fun k _ _ ihl ihr n => Bool.rec (motive := fun _ => Option AV) (ihl n) (ihr (Nat.sub n k)) (Nat.ble k n)) t
theorem Fr.get_eq : ∀ (t : Fr), t.wf → ∀ n, t.get n = t.list[n]?
  | .nil, _, n => by simp [Fr.list, Fr.get]
  | .leaf v, _, 0 => rfl
  | .leaf v, _, n + 1 => rfl
  | .node k l r, h, n => by
    obtain ⟨h1, h2, h3⟩ := h
    show Bool.rec (motive := fun _ => Option AV) (l.get n) (r.get (n - k)) (Nat.ble k n) = _
    cases hb : Nat.ble k n with
    | false =>
      have hlt : n < k := by
        rcases Nat.lt_or_ge n k with h | h
        · exact h
        · have : Nat.ble k n = true := Nat.ble_eq_true_of_le h
          rw [hb] at this; cases this
      show l.get n = _
      rw [Fr.get_eq l h1, Fr.list, List.getElem?_append_left (by omega)]
    | true =>
      have hge : k ≤ n := Nat.le_of_ble_eq_true hb
      show r.get (n - k) = _
      rw [Fr.get_eq r h2, Fr.list, List.getElem?_append_right (by omega), h3]
def Fr.set (t : Fr) (n : Nat) (v : AV) : Option Fr :=
  Fr.rec (motive := fun _ => Nat → Option Fr) (fun _ => none) (fun _ n => Nat.rec (motive := fun _ => Option Fr) (some (.leaf v)) (fun _ _ => none) n)
    (fun k l r ihl ihr n => Bool.rec (motive := fun _ => Option Fr)
      (Option.rec (motive := fun _ => Option Fr) none (fun l' => some (.node k l' r)) (ihl n))
      (Option.rec (motive := fun _ => Option Fr) none (fun r' => some (.node k l r')) (ihr (Nat.sub n k))) (Nat.ble k n)) t n
theorem Fr.set_spec : ∀ {t t' : Fr} {n : Nat} {v : AV}, t.set n v = some t' → t.wf → t'.wf ∧ n < t.list.length ∧ t'.list = t.list.set n v
  | .nil, t', n, v, h, _ => by cases h
  | .leaf u, t', 0, v, h, _ => by cases h; exact ⟨trivial, by simp [Fr.list], rfl⟩
  | .leaf u, t', n + 1, v, h, _ => by cases h
  | .node k l r, t', n, v, h, hw => by
    obtain ⟨h1, h2, h3⟩ := hw
    change Bool.rec (motive := fun _ => Option Fr)
      (Option.rec (motive := fun _ => Option Fr) none (fun l' => some (.node k l' r)) (l.set n v))
      (Option.rec (motive := fun _ => Option Fr) none (fun r' => some (.node k l r')) (r.set (n - k) v)) (Nat.ble k n) = some t' at h
    cases hb : Nat.ble k n with
    | false =>
      have hlt : n < k := by
        rcases Nat.lt_or_ge n k with h | h
        · exact h
        · have : Nat.ble k n = true := Nat.ble_eq_true_of_le h
          rw [hb] at this; cases this
      rw [hb] at h
      cases hs : l.set n v with
      | none => rw [hs] at h; cases h
      | some l' =>
        rw [hs] at h
        cases h
        obtain ⟨a, b, c⟩ := Fr.set_spec hs h1
        exact ⟨⟨a, h2, by rw [c]; simpa using h3⟩, by simp [Fr.list]; omega, by rw [Fr.list, c, Fr.list, List.set_append_left _ _ b]⟩
    | true =>
      have hge : k ≤ n := Nat.le_of_ble_eq_true hb
      rw [hb] at h
      cases hs : r.set (n - k) v with
      | none => rw [hs] at h; cases h
      | some r' =>
        rw [hs] at h
        cases h
        obtain ⟨a, b, c⟩ := Fr.set_spec hs h2
        refine ⟨⟨h1, a, h3⟩, by simp [Fr.list]; omega, ?_⟩
        rw [Fr.list, c, Fr.list, h3, List.set_append_right _ _ (by omega)]
def anyFr : Nat → Nat → Fr
  | 0, _ => .nil
  | d + 1, n => match n with
    | 0 => .nil
    | m + 1 => match m with
      | 0 => .leaf .any
      | _ + 1 => forceN (Nat.div n 2) fun k => .node k (anyFr d k) (anyFr d (Nat.sub n k))
theorem anys_app (a b : Nat) : anys (a + b) = anys a ++ anys b := by
  induction a with
  | zero => simp [anys]
  | succ a ih => rw [show a + 1 + b = (a + b) + 1 by omega, anys, ih]; rfl
theorem anyFr_spec : ∀ (d n : Nat), n ≤ 2 ^ d → (anyFr (d + 1) n).wf ∧ (anyFr (d + 1) n).list = anys n
  | d, 0, h => ⟨trivial, rfl⟩
  | d, 1, h => ⟨trivial, rfl⟩
  | 0, n + 2, h => by simp at h
  | d + 1, n + 2, h => by
    have hd : (n + 2) / 2 ≤ 2 ^ d := by
      rw [Nat.pow_succ] at h
      omega
    have hd2 : (n + 2) - (n + 2) / 2 ≤ 2 ^ d := by
      rw [Nat.pow_succ] at h
      omega
    obtain ⟨a1, a2⟩ := anyFr_spec d _ hd
    obtain ⟨b1, b2⟩ := anyFr_spec d _ hd2
    have e : anyFr (d + 1 + 1) (n + 2) = .node ((n + 2) / 2) (anyFr (d + 1) ((n + 2) / 2)) (anyFr (d + 1) ((n + 2) - (n + 2) / 2)) := by
      rw [anyFr]
      simp only [forceN_eq]
      rfl
    rw [e]
    have hlen : ∀ m, (anys m).length = m := anys_length
    refine ⟨⟨a1, b1, by rw [a2, hlen]⟩, ?_⟩
    rw [Fr.list, a2, b2, ← anys_app]
    congr 1
    omega
def setArgs : List AV → Nat → Fr → Option Fr
  | [], _, t => some t
  | v :: vs, i, t => match t.set i v with
    | some t' => setArgs vs (Nat.succ i) t'
    | none => none
theorem setArgs_spec : ∀ {vs : List AV} {i : Nat} {t t' : Fr}, setArgs vs i t = some t' → t.wf → t'.wf ∧ t'.list.length = t.list.length ∧ ∀ j, t'.list[j]? = if i ≤ j ∧ j < i + vs.length then vs[j - i]? else t.list[j]?
  | [], i, t, t', h, hw => by
    cases h
    refine ⟨hw, rfl, fun j => ?_⟩
    rw [if_neg (by simp)]
  | v :: vs, i, t, t', h, hw => by
    simp only [setArgs] at h
    split at h
    · rename_i t1 h1
      obtain ⟨a, b, c⟩ := Fr.set_spec h1 hw
      obtain ⟨d, e, f⟩ := setArgs_spec h a
      refine ⟨d, by rw [e, c, List.length_set], fun j => ?_⟩
      rw [f j, c]
      simp only [List.length_cons]
      by_cases h2 : j = i
      · subst h2
        rw [if_neg (by omega), if_pos (by omega), List.getElem?_set_self b, Nat.sub_self]
        rfl
      · rw [List.getElem?_set_ne (by omega)]
        by_cases h3 : i ≤ j ∧ j < i + (vs.length + 1)
        · rw [if_pos (by omega), if_pos h3, show j - i = (j - Nat.succ i) + 1 by omega]
          rfl
        · rw [if_neg (by omega), if_neg h3]
    · cases h
def startB (n : Nat) (vs : List AV) : Option Fr := match Nat.ble n 4096 && Nat.ble (lenB vs) n with
  | true => setArgs vs 0 (anyFr 13 n)
  | false => none
theorem startB_spec {n : Nat} {vs : List AV} {t : Fr} (h : startB n vs = some t) : t.wf ∧ t.list = vs ++ anys (n - vs.length) := by
  unfold startB at h
  split at h
  · rename_i hb
    rw [Bool.and_eq_true] at hb
    have hn : n ≤ 2 ^ 12 := Nat.le_of_ble_eq_true hb.1
    have hl := Nat.le_of_ble_eq_true hb.2
    rw [lenB_eq] at hl
    obtain ⟨a, b⟩ := anyFr_spec 12 n hn
    obtain ⟨c, d, e⟩ := setArgs_spec h a
    refine ⟨c, ?_⟩
    apply List.ext_getElem?
    intro j
    rw [e j, b]
    have hat : ∀ m j : Nat, (anys m)[j]? = if j < m then some .any else none := by
      intro m
      induction m with
      | zero => intro j; simp [anys]
      | succ m ih =>
        intro j
        cases j with
        | zero => simp [anys]
        | succ j => simp only [anys, List.getElem?_cons_succ, ih j]; simp
    by_cases hj : j < vs.length
    · rw [if_pos (by omega), List.getElem?_append_left hj]
      rfl
    · rw [if_neg (by omega), List.getElem?_append_right (by omega), hat, hat]
      by_cases h2 : j < n
      · rw [if_pos h2, if_pos (by omega)]
      · rw [if_neg h2, if_neg (by omega)]
  · cases h
end
end Go.Mir
