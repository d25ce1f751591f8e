/- The same row, written with another list. No condition. -/
import Derived.Test.YtndjmkglbcbddaaDoorMirF
set_option linter.unusedVariables false
namespace Go.Mir

/-- Two objects are the same row in two writings. -/
def Same (o o' : Obj) : Prop :=
  ∃ (α β : Type) (enc : α → List AV) (enc' : β → List AV) (sz : Nat) (d : α) (d' : β) (xs : List α) (zs : List β) (ver : Nat), o = .row α enc sz d xs ver ∧ o' = .row β enc' sz d' zs ver ∧ zs.map enc' = xs.map enc

theorem Same.live {o o' : Obj} (h : Same o o') : o.live = true ∧ o'.live = true := by
  obtain ⟨α, β, enc, enc', sz, d, d', xs, zs, ver, rfl, rfl, h⟩ := h
  exact ⟨rfl, rfl⟩
theorem Same.row {α β : Type} {enc : α → List AV} {enc' : β → List AV} {sz : Nat} {d : α} {d' : β} {xs : List α} {zs : List β} {ver : Nat} (h : zs.map enc' = xs.map enc) : Same (.row α enc sz d xs ver) (.row β enc' sz d' zs ver) :=
  ⟨α, β, enc, enc', sz, d, d', xs, zs, ver, rfl, rfl, h⟩

theorem Same.or {w : World} {S : Nat → Prop} {E : List Slot} {s : Slot} {o o' : Obj} (h : Same o o') (ho : OR w S E s o) : OR w S E s o' := by
  obtain ⟨α, β, enc, enc', sz, d, d', xs, zs, ver, rfl, rfl, h⟩ := h
  obtain ⟨k1, k2, k3, k4, k5, k6, k7, k8, k9⟩ := ho
  have hlen : zs.length = xs.length := by simpa using congrArg List.length h
  have hat : ∀ (i : Nat) z, zs[i]? = some z → ∃ x, xs[i]? = some x ∧ enc x = enc' z := by
    intro i z hz
    have h1 : (zs.map enc')[i]? = some (enc' z) := by rw [List.getElem?_map, hz]; rfl
    rw [h, List.getElem?_map, Option.map_eq_some_iff] at h1
    exact h1
  refine ⟨k1, k2, k3, by rw [hlen]; exact k4, by rw [hlen]; exact k5, fun z hz => ?_, k7, k8, fun b hb => ?_⟩
  · obtain ⟨i, hi⟩ := List.getElem?_of_mem hz
    obtain ⟨x, hx, e⟩ := hat i z hi
    rw [← e]
    exact k6 x (List.mem_of_getElem? hx)
  · obtain ⟨vs, t, e1, e2, e3⟩ := k9 b hb
    refine ⟨vs, t, e1, e2, fun i z k c hz hc => ?_⟩
    obtain ⟨x, hx, e⟩ := hat i z hz
    exact e3 i x k c hx (by rw [e]; exact hc)

section
variable {w : World} {X : Nat → Prop} {m : Nat} {E : List Slot} {hp : List Obj}

theorem own_same {j : Nat} {o o' : Obj} (hj : hp[j]? = some o) (h : Same o o') (b : Nat) : own E (hp.set j o') b ↔ own E hp b := by
  have hjl := (List.getElem?_eq_some_iff.1 hj).1
  constructor
  · rintro ⟨i, oi, si, h1, h2, h3, h4⟩
    by_cases e : j = i
    · subst e
      exact ⟨j, o, si, hj, h.live.1, h3, h4⟩
    · rw [List.getElem?_set_ne e] at h1
      exact ⟨i, oi, si, h1, h2, h3, h4⟩
  · rintro ⟨i, oi, si, h1, h2, h3, h4⟩
    by_cases e : j = i
    · subst e
      exact ⟨j, o', si, by rw [List.getElem?_set_self hjl], h.live.2, h3, h4⟩
    · exact ⟨i, oi, si, by rw [List.getElem?_set_ne e]; exact h1, h2, h3, h4⟩
theorem sx_same {j : Nat} {o o' : Obj} (hj : hp[j]? = some o) (h : Same o o') : SX X E (hp.set j o') = SX X E hp := by
  funext b
  exact propext (or_congr Iff.rfl (own_same hj h b))

theorem HR.same (hr : HR w X m E hp) {j : Nat} {o o' : Obj} (hj : hp[j]? = some o) (h : Same o o') : HR w X m E (hp.set j o') := by
  have hjl := (List.getElem?_eq_some_iff.1 hj).1
  have hat : ∀ (i : Nat) oi, (hp.set j o')[i]? = some oi → (i = j ∧ oi = o') ∨ (i ≠ j ∧ hp[i]? = some oi) := by
    intro i oi hi
    by_cases e : j = i
    · subst e
      rw [List.getElem?_set_self hjl] at hi
      cases hi
      exact .inl ⟨rfl, rfl⟩
    · rw [List.getElem?_set_ne e] at hi
      exact .inr ⟨fun h => e h.symm, hi⟩
  have old : ∀ (i : Nat) oi, (hp.set j o')[i]? = some oi → oi.live = true → ∃ o2, hp[i]? = some o2 ∧ o2.live = true := by
    intro i oi hi hl
    rcases hat i oi hi with ⟨rfl, rfl⟩ | ⟨_, hi'⟩
    · exact ⟨o, hj, h.live.1⟩
    · exact ⟨oi, hi', hl⟩
  refine ⟨by simp [hr.len], fun i oi s hi hs => ?_, hr.xlt, fun i oi s b hm hi hl hs hb => ?_, fun i k oi ok si sk b h1 h2 l1 l2 a1 a2 b1 b2 => ?_, fun i oi s b hi hl hs hb => ?_⟩
  · rw [sx_same hj h]
    rcases hat i oi hi with ⟨rfl, rfl⟩ | ⟨_, hi'⟩
    · exact h.or (hr.obj i o s hj hs)
    · exact hr.obj i oi s hi' hs
  · obtain ⟨o2, e1, e2⟩ := old i oi hi hl
    exact hr.new i o2 s b hm e1 e2 hs hb
  · obtain ⟨o2, e1, e2⟩ := old i oi h1 l1
    obtain ⟨o3, e3, e4⟩ := old k ok h2 l2
    exact hr.inj i k o2 o3 si sk b e1 e3 e2 e4 a1 a2 b1 b2
  · obtain ⟨o2, e1, e2⟩ := old i oi hi hl
    exact hr.lt i o2 s b e1 e2 hs hb

/-- An operation on a row, whatever the writings before and behind. -/
theorem After.rewrite {j : Nat} {o o1 o2 o3 : Obj} {val : AV} {v : Value} {w' : World} (hj : hp[j]? = some o) (h1 : Same o o1) (h2 : Same o2 o3) (ha : After w X m E (hp.set j o1) val [(j, o2)] v w') : After w X m E hp val [(j, o3)] v w' := by
  have hjl := (List.getElem?_eq_some_iff.1 hj).1
  obtain ⟨E', he, hh, hf, ho, hv, hrest⟩ := ha
  have e0 : updl (hp.set j o1) [(j, o2)] = hp.set j o2 := by simp [updl]
  rw [e0] at hh ho hv
  have hj2 : (hp.set j o2)[j]? = some o2 := by rw [List.getElem?_set_self hjl]
  have e1 : updl hp [(j, o3)] = (hp.set j o2).set j o3 := by simp [updl]
  refine ⟨E', he, ?_, hf.mono fun b _ h => (own_same hj h1 b).1 h, fun b hb h => ?_, ?_, fun i hi => hrest i fun p hp' => ?_⟩
  · rw [e1]
    exact hh.same hj2 h2
  · rw [e1] at h
    exact (own_same hj h1 b).1 (ho b hb ((own_same hj2 h2 b).1 h))
  · rw [e1, sx_same hj2 h2]
    exact hv
  · have := hi (j, o3) (by simp)
    rw [List.mem_singleton.1 hp']
    exact this

/-- A table in the place of a list. -/
theorem range_map {α : Type} {enc : α → List AV} {xs : List α} {d : α} {cs : List AV} : (List.range xs.length).map (fun k => bif Nat.beq k xs.length then cs else enc (xs.getD k d)) = xs.map enc := by
  apply List.ext_getElem?
  intro i
  by_cases hi : i < xs.length
  · have hb : Nat.beq i xs.length = false := by
      cases hb : Nat.beq i xs.length with
      | false => rfl
      | true => have := Nat.eq_of_beq_eq_true hb; omega
    rw [List.getElem?_map, List.getElem?_map, List.getElem?_eq_getElem (by simpa using hi), List.getElem?_eq_getElem hi]
    simp [hb, List.getD_eq_getElem?_getD, hi]
  · rw [List.getElem?_eq_none (by simpa using hi), List.getElem?_eq_none (by simpa using hi)]

theorem store_any {P : Program} {T : Nat → TI} (hT : TOk P T) (hr : HR w X m E hp) {t : Nat} (ht : (T t).k ≠ .other) {j ver i off : Nat} {α : Type} {enc : α → List AV} {sz : Nat} {d : α} {xs : List α} {p b c vs : List AV} (hj : hp[j]? = some (.row α enc sz d xs ver)) (hi : i < xs.length)
    (he : enc (xs.getD i d) = p ++ b ++ c) (hp' : p.length = off) (hb : b.length = vs.length) (hvs : vs.length = (T t).size) (ho : Go.Mir.ones vs = true) (hcl : closedAll vs) {β : Type} {e' : β → List AV} {d' : β} {zs : List β} (hz : zs.map e' = (xs.map enc).set i (p ++ vs ++ c))
    {y x : Value} (hy : VR w (SX X E hp) E (.rloc j ver i off) y) (hx : VRL w (SX X E hp) E vs x.cells.toList) :
    ∃ w', (Instr.storeAt t y x).run P w = .ok () w' ∧ After w X m E hp .any [(j, .row β e' sz d' zs ver)] undef w' := by
  have hjl := (List.getElem?_eq_some_iff.1 hj).1
  have h1 : Same (.row α enc sz d xs ver) (.row Nat (fun k => bif Nat.beq k xs.length then p ++ vs ++ c else enc (xs.getD k d)) sz 0 (List.range xs.length) ver) := .row range_map
  have hne : Nat.beq i xs.length = false := by
    cases hb : Nat.beq i xs.length with
    | false => rfl
    | true => have := Nat.eq_of_beq_eq_true hb; omega
  have hself : Nat.beq xs.length xs.length = true := Nat.beq_refl _
  have hri : (List.range xs.length).getD i 0 = i := by simp [List.getD_eq_getElem?_getD, hi]
  obtain ⟨w', hrun, ha⟩ := store_row hT (hr.same hj h1) ht (j := j) (List.getElem?_set_self hjl) (i := i) (by simpa using hi) (p := p) (b := b) (c := c) (off := off) (by rw [hri]; simp only [hne, cond_false]; exact he) hp' hb hvs ho hcl (e := xs.length) (by simp only [hself, cond_true])
    (by rw [sx_same hj h1]; exact hy) (by rw [sx_same hj h1]; exact hx)
  refine ⟨w', hrun, ha.rewrite hj h1 (.row ?_)⟩
  rw [hz, List.map_set, range_map]
  simp only [hself, cond_true]

theorem store_sound {P : Program} {T : Nat → TI} (hT : TOk P T) (hr : HR w X m E hp) {t : Nat} {p v : AV} {y x : Value} {K : List (Nat × Obj) → List Nat → Prop} (h : storeE (T t) p v hp K) (ht : (T t).k ≠ .other) (hy : VR w (SX X E hp) E p y) (hx : VR w (SX X E hp) E v x) :
    ∃ wr rd w', K wr rd ∧ (Instr.storeAt t y x).run P w = .ok () w' ∧ After w X m E hp .any wr undef w' := by
  unfold storeE at h
  obtain ⟨vs, ⟨h1, h2, h⟩, hc⟩ := flat_spec h
  have hcells := flat_cells hx hc
  split at h
  · split at h
    · rename_i hj
      obtain ⟨pp, b, c, rfl, hl, hb, hk⟩ := splice_spec h
      obtain ⟨w', hrun, ha⟩ := store_cells hT hr ht hj hl hb h2 h1 hy hcells
      exact ⟨_, _, w', hk, hrun, ha⟩
    · exact h.elim
  · split at h
    · rename_i hj
      obtain ⟨⟨rfl, hi⟩, hcl, h⟩ := h
      obtain ⟨pp, b, c, e, hl, hb, ⟨β, e', d', zs, hz, hk⟩⟩ := splice_spec h
      obtain ⟨w', hrun, ha⟩ := store_any hT hr ht hj hi e hl hb h2 h1 hcl hz hy hcells
      exact ⟨_, _, w', hk, hrun, ha⟩
    · exact h.elim
  · exact h.elim
end
end Go.Mir
