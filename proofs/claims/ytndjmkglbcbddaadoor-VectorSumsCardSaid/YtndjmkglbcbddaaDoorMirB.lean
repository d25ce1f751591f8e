/- Owned objects, states, and that a state lasts when what is not owned lasts. No condition. -/
import Derived.Test.YtndjmkglbcbddaaDoorMirA
set_option linter.unusedVariables false
namespace Go.Mir

inductive Obj : Type 1
  | dead
  | cells (cs : List AV)
  | row (α : Type) (enc : α → List AV) (sz : Nat) (d : α) (xs : List α) (ver : Nat)
  | map (κ ν : Type) (ek : κ → AV) (ev : ν → AV) (es : List (κ × ν))

def Obj.live : Obj → Bool
  | .dead => false
  | _ => true

structure St where
  fr : List AV
  hp : List Obj

/-- Which blocks the objects have. -/
def own (E : List Slot) (hp : List Obj) (b : Nat) : Prop :=
  ∃ (j : Nat) (o : Obj) (s : Slot), hp[j]? = some o ∧ o.live = true ∧ E[j]? = some s ∧ s.b = some b

/-- An object lies in memory. -/
def OR (w : World) (S : Nat → Prop) (E : List Slot) (s : Slot) : Obj → Prop
  | .dead => True
  | .cells cs => s.kind = .fix ∧ ∃ b vs t, s.b = some b ∧ w.heap[b]? = some (.cells ⟨vs⟩ t (0, 0)) ∧ cs.length = vs.length ∧
      ∀ (j : Nat) c v, cs[j]? = some c → vs[j]? = some v → VR w S E c v
  | .row α enc sz d xs ver => s.kind = .row ∧ s.ver = ver ∧ s.sz = sz ∧ s.len = xs.length ∧ xs.length ≤ s.cap ∧ (∀ x ∈ xs, (enc x).length = sz) ∧
      (s.b = none → s.cap = 0) ∧ s.len ≤ 9223372036854775807 ∧
      ∀ b, s.b = some b → ∃ vs t, w.heap[b]? = some (.cells ⟨vs⟩ t (0, 0)) ∧ vs.length = s.cap * sz ∧
        ∀ (i : Nat) x (j : Nat) c, xs[i]? = some x → (enc x)[j]? = some c → ∃ v, vs[i * sz + j]? = some v ∧ VR w S [] c v
  | .map κ ν ek ev es => s.kind = .fix ∧ ∃ b ents clock, s.b = some b ∧ w.heap[b]? = some (.map ⟨ents⟩ clock) ∧ ents.length = es.length ∧
      (∀ e ∈ ents, e.born < clock) ∧ (ents.map (·.born)).Nodup ∧
      (∀ (i : Nat) e x, ents[i]? = some e → es[i]? = some x → VR w S [] (ek x.1) e.key) ∧
      (∀ (i : Nat) e x, ents[i]? = some e → es[i]? = some x → VR w S [] (ev x.2) e.val)

/-- What may not be read as lasting: what whoever called owns (X), and what is owned here. -/
def SX (X : Nat → Prop) (E : List Slot) (hp : List Obj) (b : Nat) : Prop := X b ∨ own E hp b

/-- The objects lie in memory; the first m of them were handed in. -/
structure HR (w : World) (X : Nat → Prop) (m : Nat) (E : List Slot) (hp : List Obj) : Prop where
  len : E.length = hp.length
  obj : ∀ (j : Nat) o s, hp[j]? = some o → E[j]? = some s → OR w (SX X E hp) E s o
  xlt : ∀ b, X b → b < w.heap.size
  new : ∀ (j : Nat) o s b, m ≤ j → hp[j]? = some o → o.live = true → E[j]? = some s → s.b = some b → ¬ X b
  inj : ∀ (i j : Nat) oi oj si sj b, hp[i]? = some oi → hp[j]? = some oj → oi.live = true → oj.live = true → E[i]? = some si → E[j]? = some sj → si.b = some b → sj.b = some b → i = j
  lt : ∀ (j : Nat) o s b, hp[j]? = some o → o.live = true → E[j]? = some s → s.b = some b → b < w.heap.size

structure SR (w : World) (X : Nat → Prop) (m : Nat) (a : Act) (E : List Slot) (st : St) : Prop where
  hr : HR w X m E st.hp
  len : a.tmps.size = st.fr.length
  tmp : ∀ (t : Nat) c, st.fr[t]? = some c → VR w (SX X E st.hp) E c (a.tmps.getD t undef)
  defers : a.defers = []

theorem HR.own_lt {w : World} {X : Nat → Prop} {m : Nat} {E : List Slot} {hp : List Obj} (h : HR w X m E hp) {b : Nat} (hb : own E hp b) : b < w.heap.size := by
  obtain ⟨j, o, s, h1, h2, h3, h4⟩ := hb
  exact h.lt j o s b h1 h2 h3 h4

/-- Nothing turned but what is not owned: all lasts. -/
theorem OR.mono {w w' : World} {S S' : Nat → Prop} (hf : FrameW S w w') (hs : ∀ b, b < w.heap.size → S' b → S b) {E E' : List Slot} (he : ExtE E E') {s : Slot} {o : Obj}
    (hb : ∀ b, o.live = true → s.b = some b → w'.heap[b]? = w.heap[b]?) (h : OR w S E s o) : OR w' S' E' s o := by
  cases o with
  | dead => trivial
  | cells cs =>
    obtain ⟨hk, b, vs, t, h1, h2, h3, h4⟩ := h
    exact ⟨hk, b, vs, t, h1, (hb b rfl h1).trans h2, h3, fun j c v hc hv => (h4 j c v hc hv).mono hf hs he⟩
  | row α enc sz d xs ver =>
    obtain ⟨hk, h1, h2, h3, h4, h5, h6, h7, h8⟩ := h
    refine ⟨hk, h1, h2, h3, h4, h5, h6, h7, fun b hb' => ?_⟩
    obtain ⟨vs, t, e1, e2, e3⟩ := h8 b hb'
    refine ⟨vs, t, (hb b rfl hb').trans e1, e2, fun i x j c hx hc => ?_⟩
    obtain ⟨v, hv, hr⟩ := e3 i x j c hx hc
    exact ⟨v, hv, hr.mono hf hs (ExtE.refl _)⟩
  | map κ ν ek ev es =>
    obtain ⟨hk, b, ents, clock, h1, h2, h3, h4, h5, h6, h7⟩ := h
    exact ⟨hk, b, ents, clock, h1, (hb b rfl h1).trans h2, h3, h4, h5, fun i e x a b => (h6 i e x a b).mono hf hs (ExtE.refl _), fun i e x a b => (h7 i e x a b).mono hf hs (ExtE.refl _)⟩

/-- The world has grown beyond all that is owned: nothing owned was written. -/
theorem HR.grow {w w' : World} {X : Nat → Prop} {m : Nat} {E : List Slot} {hp : List Obj} (h : HR w X m E hp) (hf : FrameW (fun _ => False) w w') : HR w' X m E hp :=
  ⟨h.len, fun j o s h1 h2 => (h.obj j o s h1 h2).mono (hf.mono fun _ _ h => h.elim) (fun _ _ h => h) (ExtE.refl _) fun b hl hb => hf.block b (h.lt j o s b h1 hl h2 hb) id,
    fun b hb => Nat.lt_of_lt_of_le (h.xlt b hb) hf.size, h.new, h.inj, fun j o s b h1 h2 h3 h4 => Nat.lt_of_lt_of_le (h.lt j o s b h1 h2 h3 h4) hf.size⟩

theorem SR.grow {w w' : World} {X : Nat → Prop} {m : Nat} {a : Act} {E : List Slot} {st : St} (h : SR w X m a E st) (hf : FrameW (fun _ => False) w w') : SR w' X m a E st :=
  ⟨h.hr.grow hf, h.len, fun t c hc => (h.tmp t c hc).mono (hf.mono fun _ _ h => h.elim) (fun _ _ h => h) (ExtE.refl _), h.defers⟩

def St.put (st : St) (dst : Option Nat) (v : AV) : St :=
  match dst with
  | some d => ⟨st.fr.set d v, st.hp⟩
  | none => st

theorem SR.put {w : World} {X : Nat → Prop} {m : Nat} {a : Act} {E : List Slot} {st : St} (h : SR w X m a E st) (dst : Option Nat) {c : AV} {v : Value} (hv : VR w (SX X E st.hp) E c v) : SR w X m (a.put dst v) E (st.put dst c) := by
  cases dst with
  | none => exact h
  | some d =>
    refine ⟨h.hr, by simp [Act.put, St.put, h.len], fun t c' hc => ?_, h.defers⟩
    simp only [St.put, List.getElem?_set] at hc
    simp only [Act.put, Array.getD_eq_getD_getElem?, Array.getElem?_setIfInBounds]
    by_cases e : d = t
    · subst e
      rw [if_pos rfl] at hc ⊢
      split at hc
      · rename_i hlt
        rw [if_pos (by rw [h.len]; exact hlt)]
        cases hc
        exact hv
      · cases hc
    · rw [if_neg e] at hc ⊢
      rw [← Array.getD_eq_getD_getElem?]
      exact h.tmp t c' hc

theorem alloc_frame (w : World) (ob : Go.Obj) : FrameW (fun _ => False) w (w.alloc ob) := by
  refine ⟨rfl, rfl, rfl, ?_, fun b hb _ => ?_⟩
  · show w.heap.size ≤ (w.heap.push ob).size
    rw [Array.size_push]
    exact Nat.le_succ _
  · show (w.heap.push ob)[b]? = w.heap[b]?
    rw [Array.getElem?_push_lt hb, Array.getElem?_eq_getElem hb]


/-- The block of the object at a position. -/
def ownAt (E : List Slot) (hp : List Obj) (j b : Nat) : Prop :=
  ∃ (o : Obj) (s : Slot), hp[j]? = some o ∧ o.live = true ∧ E[j]? = some s ∧ s.b = some b
theorem ownAt.own {E : List Slot} {hp : List Obj} {j b : Nat} (h : ownAt E hp j b) : own E hp b :=
  let ⟨o, s, a, l, c, d⟩ := h; ⟨j, o, s, a, l, c, d⟩

/-- One object turns (is written, is made, grows, is let go). -/
theorem HR.turn {w w' : World} {X : Nat → Prop} {m : Nat} {E : List Slot} {hp : List Obj} (h : HR w X m E hp) (j : Nat) (hj : j < hp.length) (s' : Slot) (o' : Obj)
    (hf : FrameW (ownAt E hp j) w w') (he : ExtE E (E.set j s')) (hb : ∀ b, o'.live = true → s'.b = some b → b < w'.heap.size ∧ (ownAt E hp j b ∨ w.heap.size ≤ b))
    (ho : OR w' (SX X (E.set j s') (hp.set j o')) (E.set j s') s' o') :
    HR w' X m (E.set j s') (hp.set j o') ∧ ∀ b, b < w.heap.size → own (E.set j s') (hp.set j o') b → own E hp b := by
  have hjE : j < E.length := by rw [h.len]; exact hj
  have hown : ∀ b, b < w.heap.size → own (E.set j s') (hp.set j o') b → own E hp b := by
    rintro b hlt ⟨i, o, s, h1, h2, h3, h4⟩
    by_cases e : j = i
    · subst e
      rw [List.getElem?_set_self hj] at h1
      rw [List.getElem?_set_self hjE] at h3
      cases h1
      cases h3
      rcases (hb b h2 h4).2 with h' | h'
      · exact h'.own
      · omega
    · rw [List.getElem?_set_ne e] at h1 h3
      exact ⟨i, o, s, h1, h2, h3, h4⟩
  have hSX : ∀ b, b < w.heap.size → SX X (E.set j s') (hp.set j o') b → SX X E hp b := fun b hlt hx => hx.imp id (hown b hlt)
  have hfS : FrameW (SX X E hp) w w' := hf.mono fun b _ hb => .inr hb.own
  have at_ : ∀ (i : Nat) o s, (hp.set j o')[i]? = some o → (E.set j s')[i]? = some s → (i = j ∧ o = o' ∧ s = s') ∨ (i ≠ j ∧ hp[i]? = some o ∧ E[i]? = some s) := by
    intro i o s h1 h2
    by_cases e : j = i
    · subst e
      rw [List.getElem?_set_self hj] at h1
      rw [List.getElem?_set_self hjE] at h2
      cases h1
      cases h2
      exact .inl ⟨rfl, rfl, rfl⟩
    · rw [List.getElem?_set_ne e] at h1 h2
      exact .inr ⟨fun h => e h.symm, h1, h2⟩
  refine ⟨⟨by simp [h.len], fun i o s h1 h2 => ?_, fun b hx => Nat.lt_of_lt_of_le (h.xlt b hx) hf.size, fun i o s b hm h1 hl h2 hbb hx => ?_, fun i k oi ok si sk b h1 h2 l1 l2 e1 e2 b1 b2 => ?_, fun i o s b h1 h2 h3 h4 => ?_⟩, hown⟩
  · rcases at_ i o s h1 h2 with ⟨rfl, rfl, rfl⟩ | ⟨hne, h1, h2⟩
    · exact ho
    · refine (h.obj i o s h1 h2).mono hfS hSX he fun b hl hb' => hf.block b (h.lt i o s b h1 hl h2 hb') fun ⟨oj, sj, a1, a2, a3, a4⟩ => hne (h.inj i j o oj s sj b h1 a1 hl a2 h2 a3 hb' a4)
  · rcases at_ i o s h1 h2 with ⟨rfl, rfl, rfl⟩ | ⟨hne, h1, h2⟩
    · rcases (hb b hl hbb).2 with ⟨oj, sj, a1, a2, a3, a4⟩ | h'
      · exact h.new i oj sj b hm a1 a2 a3 a4 hx
      · have := h.xlt b hx
        omega
    · exact h.new i o s b hm h1 hl h2 hbb hx
  · rcases at_ i oi si h1 e1 with ⟨rfl, rfl, rfl⟩ | ⟨hne, p1, p2⟩ <;> rcases at_ k ok sk h2 e2 with ⟨rfl, rfl, rfl⟩ | ⟨hne', q1, q2⟩
    · rfl
    · exfalso
      rcases (hb b l1 b1).2 with ⟨oj, sj, a1, a2, a3, a4⟩ | h'
      · exact hne' (h.inj k i ok oj sk sj b q1 a1 l2 a2 q2 a3 b2 a4)
      · have := h.lt k ok sk b q1 l2 q2 b2
        omega
    · exfalso
      rcases (hb b l2 b2).2 with ⟨oj, sj, a1, a2, a3, a4⟩ | h'
      · exact hne (h.inj i k oi oj si sj b p1 a1 l1 a2 p2 a3 b1 a4)
      · have := h.lt i oi si b p1 l1 p2 b1
        omega
    · exact h.inj i k oi ok si sk b p1 q1 l1 l2 p2 q2 b1 b2
  · rcases at_ i o s h1 h3 with ⟨rfl, rfl, rfl⟩ | ⟨hne, h1, h3⟩
    · exact (hb b h2 h4).1
    · exact Nat.lt_of_lt_of_le (h.lt i o s b h1 h2 h3 h4) hf.size

/-- A place for an object to come. -/
def Slot.none : Slot := ⟨.ph, .none, 0, 0, 0, 0⟩
theorem ExtE.app (E F : List Slot) : ExtE E (E ++ F) := fun j s hs _ =>
  ⟨s, by rw [List.getElem?_append_left (List.getElem?_eq_some_iff.1 hs).1]; exact hs, .inl rfl⟩
theorem own_app {E : List Slot} {hp : List Obj} (hl : E.length = hp.length) {b : Nat} : own (E ++ [Slot.none]) (hp ++ [.dead]) b ↔ own E hp b := by
  constructor
  · rintro ⟨j, o, s, h1, h2, h3, h4⟩
    by_cases hj : j < hp.length
    · rw [List.getElem?_append_left hj] at h1
      rw [List.getElem?_append_left (by omega)] at h3
      exact ⟨j, o, s, h1, h2, h3, h4⟩
    · have hj' : j = hp.length := by
        have := (List.getElem?_eq_some_iff.1 h1).1
        simp at this
        omega
      subst hj'
      simp at h1
      subst h1
      cases h2
  · rintro ⟨j, o, s, h1, h2, h3, h4⟩
    have hj := (List.getElem?_eq_some_iff.1 h1).1
    exact ⟨j, o, s, by rw [List.getElem?_append_left hj]; exact h1, h2, by rw [List.getElem?_append_left (by omega)]; exact h3, h4⟩
theorem HR.app {w : World} {X : Nat → Prop} {m : Nat} {E : List Slot} {hp : List Obj} (h : HR w X m E hp) : HR w X m (E ++ [Slot.none]) (hp ++ [.dead]) := by
  have hS : ∀ b, SX X (E ++ [Slot.none]) (hp ++ [.dead]) b ↔ SX X E hp b := fun b => or_congr Iff.rfl (own_app h.len)
  have at_ : ∀ (i : Nat) o s, (hp ++ [Obj.dead])[i]? = some o → (E ++ [Slot.none])[i]? = some s → o = .dead ∨ (hp[i]? = some o ∧ E[i]? = some s) := by
    intro i o s h1 h2
    by_cases hi : i < hp.length
    · rw [List.getElem?_append_left hi] at h1
      rw [List.getElem?_append_left (by rw [h.len]; exact hi)] at h2
      exact .inr ⟨h1, h2⟩
    · have hj' : i = hp.length := by
        have := (List.getElem?_eq_some_iff.1 h1).1
        simp at this
        omega
      subst hj'
      simp at h1
      exact .inl h1.symm
  refine ⟨by simp [h.len], fun i o s h1 h2 => ?_, h.xlt, fun i o s b hm h1 hl h2 hb => ?_, fun i k oi ok si sk b h1 h2 l1 l2 e1 e2 b1 b2 => ?_, fun i o s b h1 h2 h3 h4 => ?_⟩
  · rcases at_ i o s h1 h2 with rfl | ⟨h1, h2⟩
    · trivial
    · exact (h.obj i o s h1 h2).mono (FrameW.refl _ _) (fun b _ hb => (hS b).1 hb) (ExtE.app _ _) fun _ _ _ => rfl
  · rcases at_ i o s h1 h2 with rfl | ⟨h1, h2⟩
    · cases hl
    · exact h.new i o s b hm h1 hl h2 hb
  · rcases at_ i oi si h1 e1 with rfl | ⟨h1, e1⟩
    · cases l1
    rcases at_ k ok sk h2 e2 with rfl | ⟨h2, e2⟩
    · cases l2
    exact h.inj i k oi ok si sk b h1 h2 l1 l2 e1 e2 b1 b2
  · rcases at_ i o s h1 h3 with rfl | ⟨h1, h3⟩
    · cases h2
    · exact h.lt i o s b h1 h2 h3 h4
end Go.Mir
