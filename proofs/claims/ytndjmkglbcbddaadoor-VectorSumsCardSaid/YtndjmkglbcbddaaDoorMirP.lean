/- Regions that draw their order: every order comes to the same, where what may be exchanged touches different things. No condition. -/
import Derived.Test.YtndjmkglbcbddaaDoorMirO
set_option linter.unusedVariables false
namespace Go.Mir
universe u

section generic
variable {β : Type u}
def updL (l : List β) (ps : List (Nat × β)) : List β := ps.foldl (fun h p => h.set p.1 p.2) l
theorem updL_length (l : List β) : ∀ ps, (updL l ps).length = l.length := by
  intro ps
  induction ps generalizing l with
  | nil => rfl
  | cons p ps ih => simp only [updL, List.foldl_cons] at ih ⊢; rw [ih]; simp
theorem updL_other (l : List β) : ∀ (ps : List (Nat × β)) (j : Nat), j ∉ ps.map (·.1) → (updL l ps)[j]? = l[j]? := by
  intro ps
  induction ps generalizing l with
  | nil => exact fun j _ => rfl
  | cons p ps ih =>
    intro j hj
    simp only [List.map_cons, List.mem_cons, not_or] at hj
    simp only [updL, List.foldl_cons] at ih ⊢
    rw [ih (l.set p.1 p.2) j hj.2, List.getElem?_set_ne (Ne.symm hj.1)]
theorem updL_at (l l' : List β) (hl : l.length = l'.length) : ∀ (ps : List (Nat × β)) (j : Nat), j ∈ ps.map (·.1) ∨ l[j]? = l'[j]? → (updL l ps)[j]? = (updL l' ps)[j]? := by
  intro ps
  induction ps generalizing l l' with
  | nil => intro j hj; simpa [updL] using hj
  | cons p ps ih =>
    intro j hj
    simp only [updL, List.foldl_cons] at ih ⊢
    refine ih _ _ (by simp [hl]) j ?_
    by_cases h : j ∈ ps.map (·.1)
    · exact .inl h
    · refine .inr ?_
      by_cases e : p.1 = j
      · subst e
        simp [List.getElem?_set, hl]
      · rw [List.getElem?_set_ne e, List.getElem?_set_ne e]
        rcases hj with hj | hj
        · simp only [List.map_cons, List.mem_cons] at hj
          exact absurd (hj.resolve_left fun h => e h.symm) h
        · exact hj
def runD (D : Nat → Bool) : Nat → List (List (Nat × β)) → List β → List β
  | _, [], l => l
  | k, ps :: L, l => runD D (k + 1) L (if D k then updL l ps else l)
theorem runD_length (D : Nat → Bool) : ∀ (L : List (List (Nat × β))) (k : Nat) (l : List β), (runD D k L l).length = l.length
  | [], k, l => rfl
  | ps :: L, k, l => by
    simp only [runD]
    rw [runD_length D L]
    split <;> simp [updL_length]
theorem runD_congr {D D' : Nat → Bool} (t : Nat) : ∀ (L : List (List (Nat × β))) (k : Nat) (l l' : List β), l.length = l'.length → l[t]? = l'[t]? → (∀ (i : Nat) ps, L[i]? = some ps → t ∈ ps.map (·.1) → D (k + i) = D' (k + i)) → (runD D k L l)[t]? = (runD D' k L l')[t]?
  | [], k, l, l', hl, ht, h => ht
  | ps :: L, k, l, l', hl, ht, h => by
    simp only [runD]
    refine runD_congr t L (k + 1) _ _ (by split <;> split <;> simp [updL_length, hl]) ?_ fun i ps' h1 h2 => by
      have := h (i + 1) ps' (by simpa using h1) h2
      rwa [show k + (i + 1) = k + 1 + i by omega] at this
    by_cases hm : t ∈ ps.map (·.1)
    · have := h 0 ps rfl hm
      simp only [Nat.add_zero] at this
      rw [this]
      split
      · exact updL_at _ _ hl _ _ (.inl hm)
      · exact ht
    · have a1 : ∀ (c : Bool) (l : List β), (if c = true then updL l ps else l)[t]? = l[t]? := by
        intro c l
        split
        · exact updL_other _ _ _ hm
        · rfl
      rw [a1, a1, ht]
theorem runD_none {D : Nat → Bool} (t : Nat) : ∀ (L : List (List (Nat × β))) (k : Nat) (l : List β), (∀ (i : Nat) ps, L[i]? = some ps → t ∈ ps.map (·.1) → D (k + i) = false) → (runD D k L l)[t]? = l[t]?
  | [], k, l, h => rfl
  | ps :: L, k, l, h => by
    simp only [runD]
    rw [runD_none t L (k + 1) _ fun i ps' h1 h2 => by
      have := h (i + 1) ps' (by simpa using h1) h2
      rwa [show k + (i + 1) = k + 1 + i by omega] at this]
    split
    · rename_i hd
      by_cases hm : t ∈ ps.map (·.1)
      · have := h 0 ps rfl hm
        simp only [Nat.add_zero] at this
        rw [this] at hd
        cases hd
      · exact updL_other _ _ _ hm
    · rfl
theorem runD_last {D : Nat → Bool} (t : Nat) : ∀ (L : List (List (Nat × β))) (k : Nat) (l : List β) (i : Nat) (ps : List (Nat × β)), L[i]? = some ps → t ∈ ps.map (·.1) → D (k + i) = true →
    (∀ (i' : Nat) ps', i < i' → L[i']? = some ps' → t ∈ ps'.map (·.1) → D (k + i') = false) → ∀ l', l'.length = l.length → (runD D k L l)[t]? = (updL l' ps)[t]?
  | [], k, l, i, ps, h, _, _, _, _, _ => by simp at h
  | qs :: L, k, l, 0, ps, h, hm, hd, hl, l', hll => by
    simp at h
    subst h
    simp only [Nat.add_zero] at hd
    simp only [runD, hd, if_true]
    rw [runD_none t L (k + 1) _ fun i ps' h1 h2 => by
      have := hl (i + 1) ps' (by omega) (by simpa using h1) h2
      rwa [show k + (i + 1) = k + 1 + i by omega] at this]
    exact updL_at _ _ hll.symm _ _ (.inl hm)
  | qs :: L, k, l, i + 1, ps, h, hm, hd, hl, l', hll => by
    simp only [runD]
    refine runD_last t L (k + 1) _ i ps (by simpa using h) hm (by rwa [show k + 1 + i = k + (i + 1) by omega]) (fun i' ps' h1 h2 h3 => ?_) l' ?_
    · have := hl (i' + 1) ps' (by omega) (by simpa using h2) h3
      rwa [show k + 1 + i' = k + (i' + 1) by omega]
    · split <;> simp [updL_length, hll]
/-- One more is done. -/
theorem runD_add {D D' : Nat → Bool} {L : List (List (Nat × β))} {l : List β} {i : Nat} {ps : List (Nat × β)} (hi : L[i]? = some ps) (hD : ∀ k, D' k = (D k || k == i))
    (ho : ∀ (k : Nat) qs t, D k = true → L[k]? = some qs → t ∈ qs.map (·.1) → t ∈ ps.map (·.1) → k < i) : updL (runD D 0 L l) ps = runD D' 0 L l := by
  apply List.ext_getElem?
  intro t
  by_cases hm : t ∈ ps.map (·.1)
  · rw [runD_last (D := D') t L 0 l i ps hi hm (by simp [hD]) (fun i' ps' h1 h2 h3 => ?_) (runD D 0 L l) (runD_length _ _ _ _)]
    rw [Nat.zero_add, hD]
    have : (i' == i) = false := by simp; omega
    rw [this, Bool.or_false]
    cases hd : D i' with
    | false => rfl
    | true => have := ho i' ps' t hd h2 h3 hm; omega
  · rw [updL_other _ _ _ hm]
    refine runD_congr t L 0 l l rfl rfl fun k qs h1 h2 => ?_
    rw [Nat.zero_add, hD]
    by_cases e : k = i
    · subst e
      rw [hi] at h1
      cases h1
      exact absurd h2 hm
    · simp [e]
theorem runD_step (L : List (List (Nat × β))) : ∀ (k : Nat) (l : List β) (ps : List (Nat × β)), runD (fun _ => true) k (L ++ [ps]) l = updL (runD (fun _ => true) k L l) ps := by
  induction L with
  | nil => intro k l ps; simp [runD]
  | cons q L ih => intro k l ps; simp only [List.cons_append, runD, if_true]; exact ih (k + 1) _ ps
end generic

theorem updl_eq (hp : List Obj) (wr : List (Nat × Obj)) : updl hp wr = updL hp wr := rfl
def dstL (dst : Option Nat) (c : AV) : List (Nat × AV) :=
  match dst with
  | none => []
  | some d => [(d, c)]
theorem setO_eq (fr : List AV) (dst : Option Nat) (c : AV) : setO fr dst c = updL fr (dstL dst c) := by cases dst <;> rfl

/-! ### What must go ahead of what -/
def preds (o : Oper) : List Nat := (o.after.toList.filter (Region.binds .any)).map (·.on)

/-- the ancestors of each operation, as bits -/
def masksFrom : List Oper → List Nat → List Nat
  | [], acc => acc
  | o :: os, acc => masksFrom os (acc ++ [(preds o).foldl (fun s k => s ||| (1 <<< k) ||| acc.getD k 0) 0])
def masks (ops : List Oper) : List Nat := masksFrom ops []

theorem fold_bits (acc : List Nat) (b : Nat) : ∀ (l : List Nat) (s : Nat), (l.foldl (fun s k => s ||| (1 <<< k) ||| acc.getD k 0) s).testBit b = true → s.testBit b = true ∨ ∃ k ∈ l, k = b ∨ (acc.getD k 0).testBit b = true
  | [], s, h => .inl h
  | k :: l, s, h => by
    rcases fold_bits acc b l _ h with h | ⟨k', hk', h⟩
    · simp only [Nat.testBit_or, Bool.or_eq_true] at h
      rcases h with (h | h) | h
      · exact .inl h
      · refine .inr ⟨k, by simp, .inl ?_⟩
        rw [Nat.one_shiftLeft, Nat.testBit_two_pow] at h
        simpa using h
      · exact .inr ⟨k, by simp, .inr h⟩
    · exact .inr ⟨k', by simp [hk'], h⟩

theorem masksFrom_at : ∀ (os : List Oper) (acc : List Nat) (i : Nat), (masksFrom os acc).getD i 0 = if i < acc.length then acc.getD i 0 else
    match os[i - acc.length]? with
    | none => 0
    | some o => (preds o).foldl (fun s k => s ||| (1 <<< k) ||| (if k < i then (masksFrom os acc).getD k 0 else 0)) 0
  | [], acc, i => by
    simp only [masksFrom]
    split
    · rfl
    · rename_i h
      simp [List.getD_eq_getElem?_getD, List.getElem?_eq_none (Nat.le_of_not_lt h)]
  | o :: os, acc, i => by
    have key := masksFrom_at os (acc ++ [(preds o).foldl (fun s k => s ||| (1 <<< k) ||| acc.getD k 0) 0])
    simp only [masksFrom]
    rw [key i]
    simp only [List.length_append, List.length_cons, List.length_nil, Nat.zero_add]
    by_cases h1 : i < acc.length
    · rw [if_pos (by omega), if_pos h1]
      simp [List.getD_eq_getElem?_getD, List.getElem?_append_left h1]
    · rw [if_neg h1]
      by_cases h2 : i = acc.length
      · subst h2
        rw [if_pos (by omega)]
        simp only [Nat.sub_self, List.getElem?_cons_zero]
        simp only [List.getD_eq_getElem?_getD, List.getElem?_append_right (Nat.le_refl _), Nat.sub_self, List.getElem?_cons_zero, Option.getD_some]
        congr 1
        funext s k
        congr 1
        split
        · rename_i hk
          have := key k
          rw [if_pos (by simp; omega)] at this
          simp only [List.getD_eq_getElem?_getD] at this
          rw [this, List.getElem?_append_left hk]
        · rename_i hk
          rw [List.getElem?_eq_none (by omega)]
          rfl
      · rw [if_neg (by omega)]
        rw [show i - acc.length = (i - (acc.length + 1)) + 1 by omega, List.getElem?_cons_succ]

theorem masks_at (ops : List Oper) (i : Nat) : (masks ops).getD i 0 = match ops[i]? with
    | none => 0
    | some o => (preds o).foldl (fun s k => s ||| (1 <<< k) ||| (if k < i then (masks ops).getD k 0 else 0)) 0 := by
  have := masksFrom_at ops [] i
  simpa [masks] using this

/-- Whatever is done has its ancestors done. -/
theorem masks_done {ops : List Oper} {D : Nat → Bool} (hD : ∀ (i : Nat) o k, D i = true → ops[i]? = some o → k ∈ preds o → D k = true) :
    ∀ (i : Nat) (o : Oper), ops[i]? = some o → (∀ k ∈ preds o, D k = true) → ∀ b, ((masks ops).getD i 0).testBit b = true → D b = true := by
  intro i
  induction i using Nat.strongRecOn with
  | _ i ih =>
    intro o ho hp b hb
    rw [masks_at, ho] at hb
    simp only at hb
    have : (fun (s k : Nat) => s ||| (1 <<< k) ||| (if k < i then (masks ops).getD k 0 else 0)) = fun s k => s ||| (1 <<< k) ||| (((List.range i).map fun k => (masks ops).getD k 0).getD k 0) := by
      funext s k
      congr 1
      simp only [List.getD_eq_getElem?_getD, List.getElem?_map]
      split
      · rename_i h; simp [h]
      · rename_i h
        have : (List.range i)[k]? = none := List.getElem?_eq_none (by simp; omega)
        simp [this]
    rw [this] at hb
    rcases fold_bits _ b _ _ hb with h | ⟨k, hk, h⟩
    · simp at h
    · rcases h with rfl | h
      · exact hp _ hk
      · have hki : k < i := by
          rcases Nat.lt_or_ge k i with h' | h'
          · exact h'
          · have e0 : (List.map (fun k => (masks ops).getD k 0) (List.range i)).getD k 0 = 0 := by
              rw [List.getD_eq_getElem?_getD, List.getElem?_eq_none (by simp; exact h')]
              rfl
            rw [e0] at h
            simp at h
        have e1 : (List.map (fun k => (masks ops).getD k 0) (List.range i)).getD k 0 = (masks ops).getD k 0 := by
          simp [List.getD_eq_getElem?_getD, hki]
        rw [e1] at h
        cases hok : ops[k]? with
        | none =>
          rw [masks_at, hok] at h
          simp at h
        | some o' => exact ih k hki o' hok (fun k' hk' => hD k o' k' (hp k hk) hok hk') b h
end Go.Mir
