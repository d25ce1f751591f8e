/- That the operations do so: new objects; parts of values; and all together. No condition. -/
import Derived.Test.YtndjmkglbcbddaaDoorMirF2
set_option linter.unusedVariables false
namespace Go.Mir

section
variable {P : Program} {T : Nat → TI} {g : Option Bool} {w : World} {X : Nat → Prop} {m : Nat} {E : List Slot} {hp : List Obj} {a : Act} {ev : Operand → AV} {o : Oper}

theorem allocS (w : World) (ob : Go.Obj) (S : Nat → Prop) : FrameW S w (w.alloc ob) := by
  refine ⟨rfl, rfl, rfl, ?_, fun b hb _ => ?_⟩
  · show w.heap.size ≤ (w.heap.push ob).size
    rw [Array.size_push]
    exact Nat.le_succ _
  · show (w.heap.push ob)[b]? = w.heap[b]?
    rw [Array.getElem?_push_lt hb, Array.getElem?_eq_getElem hb]
theorem alloc_at (w : World) (ob : Go.Obj) : (w.alloc ob).heap[w.heap.size]? = some ob := by
  show (w.heap.push ob)[w.heap.size]? = some ob
  simp
theorem alloc_size (w : World) (ob : Go.Obj) : (w.alloc ob).heap.size = w.heap.size + 1 := by
  show (w.heap.push ob).size = _
  simp

/-- A new object at a place for one. -/
theorem new_obj (hr : HR w X m E hp) {n : Nat} (hn : n < hp.length) (hph : hp[n]? = some .dead) (hE : E[n]? = some Slot.none) {w' : World} (hf : FrameW (fun _ => False) w w') (s' : Slot) (o' : Obj) (hk : s'.kind ≠ .ph)
    (hb : ∀ b, s'.b = some b → w.heap.size ≤ b ∧ b < w'.heap.size) (ho : OR w' (SX X (E.set n s') (hp.set n o')) (E.set n s') s' o') {val : AV} {v : Value} (hv : VR w' (SX X (E.set n s') (hp.set n o')) (E.set n s') val v) :
    After w X m E hp val [(n, o')] v w' := by
  have he : ExtE E (E.set n s') := by
    intro j s hj hp
    by_cases e : n = j
    · subst e
      rw [hE] at hj
      cases hj
      exact absurd rfl hp
    · exact ⟨s, by rw [List.getElem?_set_ne e]; exact hj, .inl rfl⟩
  have hf' : FrameW (ownAt E hp n) w w' := hf.mono fun _ _ h => h.elim
  obtain ⟨H, hown⟩ := hr.turn n hn s' o' hf' he (fun b _ hb' => ⟨(hb b hb').2, .inr (hb b hb').1⟩) ho
  exact ⟨E.set n s', he, H, hf.mono fun _ _ h => h.elim, hown, hv, fun j hj => by rw [List.getElem?_set_ne (hj _ (List.mem_singleton.2 rfl))]⟩

theorem own_new {E' : List Slot} {hp' : List Obj} {w w' : World} (h : ∀ b, b < w.heap.size → own E' hp' b → own E hp b) (b : Nat) (hb : b < w.heap.size) (hs : SX X E' hp' b) : SX X E hp b := hs.imp id (h b hb)

/-- What was owned is all that is owned below. -/
theorem own_set {n : Nat} {s' : Slot} {o' : Obj} (hr : HR w X m E hp) (hn : n < hp.length) (hb : ∀ b, s'.b = some b → w.heap.size ≤ b) (b : Nat) (hlt : b < w.heap.size) (h : own (E.set n s') (hp.set n o') b) : own E hp b := by
  obtain ⟨j, oj, sj, h1, h2, h3, h4⟩ := h
  by_cases e : n = j
  · subst e
    rw [List.getElem?_set_self (by rw [hr.len]; exact hn)] at h3
    cases h3
    exact absurd (hb b h4) (by omega)
  · rw [List.getElem?_set_ne e] at h1 h3
    exact ⟨j, oj, sj, h1, h2, h3, h4⟩

theorem ext_set {n : Nat} {s' : Slot} (hE : E[n]? = some Slot.none) : ExtE E (E.set n s') := by
  intro j s hj hp
  by_cases e : n = j
  · subst e
    rw [hE] at hj
    cases hj
    exact absurd rfl hp
  · exact ⟨s, by rw [List.getElem?_set_ne e]; exact hj, .inl rfl⟩

/-- A new variable. -/
theorem new_cells (hr : HR w X m E hp) {n : Nat} (hn : n < hp.length) (hph : hp[n]? = some .dead) (hE : E[n]? = some Slot.none) {cs : List AV} {vs : List Value} (t : TypeId) (h : VRL w (SX X E hp) E cs vs) :
    After w X m E hp (.loc n 0) [(n, .cells cs)] (.pointer (some ⟨w.heap.size, 0, none⟩)) (w.alloc (.cells ⟨vs⟩ t)) := by
  have hnE : n < E.length := by rw [hr.len]; exact hn
  have hb : ∀ b, (⟨.fix, some w.heap.size, 0, 0, 0, 0⟩ : Slot).b = some b → w.heap.size ≤ b := fun b hb => by cases hb; exact Nat.le_refl _
  have hv : VRL (w.alloc (.cells ⟨vs⟩ t)) (SX X (E.set n ⟨.fix, some w.heap.size, 0, 0, 0, 0⟩) (hp.set n (.cells cs))) (E.set n ⟨.fix, some w.heap.size, 0, 0, 0, 0⟩) cs vs :=
    h.mono (allocS w _ _) (fun b hlt hs => hs.imp id (own_set hr hn hb b hlt)) (ext_set hE)
  refine new_obj hr hn hph hE (allocS w _ _) ⟨.fix, some w.heap.size, 0, 0, 0, 0⟩ (.cells cs) (by simp) (fun b hb' => ⟨hb b hb', by cases hb'; rw [alloc_size]; exact Nat.lt_succ_self _⟩) ⟨rfl, _, vs, t, rfl, alloc_at w _, hv.1, hv.2⟩ ?_
  exact .loc (by rw [List.getElem?_set_self hnE]) rfl rfl

/-- A new row. -/
theorem new_row (hr : HR w X m E hp) {n : Nat} (hn : n < hp.length) (hph : hp[n]? = some .dead) (hE : E[n]? = some Slot.none) {α : Type} {enc : α → List AV} {sz : Nat} (d : α) {xs : List α} {vs : List Value} {cap : Nat} (t : TypeId)
    (hcap : xs.length ≤ cap) (hmx : xs.length ≤ 9223372036854775807) (hsz : ∀ x ∈ xs, (enc x).length = sz) (hl : vs.length = cap * sz) (h : ∀ (i : Nat) x (j : Nat) c, xs[i]? = some x → (enc x)[j]? = some c → ∃ v, vs[i * sz + j]? = some v ∧ VR w (SX X E hp) [] c v) :
    After w X m E hp (.rowf n 0) [(n, .row α enc sz d xs 0)] (.slice (some ⟨w.heap.size, 0, none⟩) xs.length cap) (w.alloc (.cells ⟨vs⟩ t)) := by
  have hnE : n < E.length := by rw [hr.len]; exact hn
  have hb : ∀ b, (⟨.row, some w.heap.size, cap, 0, sz, xs.length⟩ : Slot).b = some b → w.heap.size ≤ b := fun b hb => by cases hb; exact Nat.le_refl _
  refine new_obj hr hn hph hE (allocS w _ _) ⟨.row, some w.heap.size, cap, 0, sz, xs.length⟩ (.row α enc sz d xs 0) (by simp) (fun b hb' => ⟨hb b hb', by cases hb'; rw [alloc_size]; exact Nat.lt_succ_self _⟩) ?_ ?_
  · refine ⟨rfl, rfl, rfl, rfl, hcap, hsz, (fun h => by cases h), hmx, fun b hb' => ?_⟩
    cases hb'
    refine ⟨vs, t, alloc_at w _, hl, fun i x j c h1 h2 => ?_⟩
    obtain ⟨v, hv, hvr⟩ := h i x j c h1 h2
    exact ⟨v, hv, hvr.mono (allocS w _ _) (fun b hlt hs => hs.imp id (own_set hr hn hb b hlt)) (.refl _)⟩
  · exact .rowf (by rw [List.getElem?_set_self hnE]) rfl (Nat.le_refl _) fun _ => ⟨rfl, rfl, fun b hb => by cases hb; rfl, fun h => by cases h⟩

/-! ### The values of operands -/
theorem constAV_sound (v : Value) {S : Nat → Prop} : VR w S E (constAV v) v := by
  unfold constAV
  split <;> first | constructor | exact .any

theorem evalAV_sound {fr : List AV} {S : Nat → Prop} (hl : a.tmps.size = fr.length) (h : ∀ (t : Nat) c, fr[t]? = some c → VR w S E c (a.tmps.getD t undef)) (x : Operand) : VR w S E (evalAV fr x) (a.eval x) := by
  cases x with
  | tmp t =>
    simp only [evalAV, Act.eval, List.getD_eq_getElem?_getD]
    cases e : fr[t]? with
    | none => exact .any
    | some c => exact h t c e
  | const v => exact constAV_sound v
  | global g => exact .any
  | func f => exact .fn (av := []) (cv := []) rfl rfl (fun j c v h => by simp at h) (fun j c v h => by simp at h)

theorem bool_inv {S : Nat → Prop} {b : Bool} {v : Value} (h : VR w S E (.bool b) v) : v = .bool b := by cases h; rfl
theorem int_inv {S : Nat → Prop} {k : IntKind} {n : Int} {v : Value} (h : VR w S E (.int k n) v) : v = .int k n := by cases h; rfl
theorem str_inv {S : Nat → Prop} {s : ByteArray} {v : Value} (h : VR w S E (.str s) v) : v = .string s := by cases h; rfl
end
end Go.Mir
