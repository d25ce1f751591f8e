/- That the operations do so. No condition. -/
import Derived.Test.YtndjmkglbcbddaaDoorMirD
import Derived.Laws.Entries
set_option linter.unusedVariables false
namespace Go.Mir

def Does (P : Program) (o : Oper) (a : Act) (w : World) (R : Value → World → Prop) : Prop :=
  ∀ (next : Act → World → Prop) (Q : Exit → Act → World → Prop), (∀ v w', R v w' → next (a.put o.dst v) w') → o.wp P a w next Q

section
variable {P : Program} {o : Oper} {a : Act} {w w' : World} {R : Value → World → Prop}
theorem Does.value {v : Value} (h : (execOp a.eval o).run P w = .ok (.value v) w') (hr : R v w') : Does P o a w R := by
  intro next Q hn
  show o.upon P a next Q ((execOp a.eval o).run P w)
  rw [h]
  exact hn v w' hr
theorem Does.skip (h : (execOp a.eval o).run P w = .ok .skip w') (hr : R undef w') : Does P o a w R := by
  intro next Q hn
  show o.upon P a next Q ((execOp a.eval o).run P w)
  rw [h]
  exact hn undef w' hr
theorem Does.mono {R' : Value → World → Prop} (h : Does P o a w R) (hr : ∀ v w', R v w' → R' v w') : Does P o a w R' :=
  fun next Q hn => h next Q fun v w' r => hn v w' (hr v w' r)
theorem Does.inv {f : FuncId} {args : Array Value} (h : (execOp a.eval o).run P w = (callFunc f args).run P w) (hi : Inv P f args w R) : Does P o a w R := by
  rcases hi with ⟨h1, h2⟩ | ⟨v, w', h1, h2⟩ | ⟨row, as, w', h1, h2⟩
  · intro next Q hn
    show o.upon P a next Q ((execOp a.eval o).run P w)
    rw [h, h1]
    show Calls P f args w _
    refine h2.mono ?_
    rintro e w' ⟨v, rfl, hr⟩
    exact hn v w' hr
  · exact Does.value (h.trans h1) h2
  · intro next Q hn
    show o.upon P a next Q ((execOp a.eval o).run P w)
    rw [h, h1]
    exact h2.mono hn
end

def updl (hp : List Obj) (wr : List (Nat × Obj)) : List Obj := wr.foldl (fun h p => h.set p.1 p.2) hp

/-- What stands behind an operation. -/
def After (w : World) (X : Nat → Prop) (m : Nat) (E : List Slot) (hp : List Obj) (val : AV) (wr : List (Nat × Obj)) (v : Value) (w' : World) : Prop :=
  ∃ E', ExtE E E' ∧ HR w' X m E' (updl hp wr) ∧ FrameW (own E hp) w w' ∧ (∀ b, b < w.heap.size → own E' (updl hp wr) b → own E hp b) ∧
    VR w' (SX X E' (updl hp wr)) E' val v ∧ ∀ j, (∀ p ∈ wr, p.1 ≠ j) → E'[j]? = E[j]?

section
variable {P : Program} {T : Nat → TI} {g : Option Bool} {w : World} {X : Nat → Prop} {m : Nat} {E : List Slot} {hp : List Obj} {a : Act} {ev : Operand → AV} {o : Oper}

theorem After.same (hr : HR w X m E hp) {val : AV} {v : Value} (hv : VR w (SX X E hp) E val v) : After w X m E hp val [] v w :=
  ⟨E, .refl _, hr, .refl _ _, fun _ _ h => h, hv, fun _ _ => rfl⟩
theorem After.grown (hr : HR w X m E hp) {w' : World} (hf : FrameW (fun _ => False) w w') {val : AV} {v : Value} (hv : VR w' (SX X E hp) E val v) : After w X m E hp val [] v w' :=
  ⟨E, .refl _, hr.grow hf, hf.mono fun _ _ h => h.elim, fun _ _ h => h, hv, fun _ _ => rfl⟩

theorem ob_true (hg : g = none ∨ g = some true) {p : Prop} (h : ob g p) : p := by
  rcases hg with rfl | rfl
  · exact h
  · exact h rfl
theorem strip_spec (hg : g = none ∨ g = some true) {S : Nat → Prop} {c : AV} {v : Value} {K : AV → Prop} (h : strip g c K) (hv : VR w S E c v) : ∃ c', K c' ∧ VR w S E c' v := by
  unfold strip at h
  split at h
  · obtain ⟨h1, h2⟩ := h
    cases hv with | when hv _ => exact ⟨_, h2, hv (ob_true hg h1)⟩
  · exact ⟨_, h, hv⟩
theorem strips_spec (hg : g = none ∨ g = some true) {S : Nat → Prop} : ∀ {cs : List AV} {vs : List Value} {K : List AV → Prop}, strips g cs K → VRL w S E cs vs → ∃ cs', K cs' ∧ VRL w S E cs' vs
  | [], vs, K, h, hv => ⟨[], h, hv⟩
  | c :: cs, [], K, h, hv => by have := hv.1; simp at this
  | c :: cs, v :: vs, K, h, hv => by
    obtain ⟨c', h', hc⟩ := strip_spec hg h (hv.2 0 c v rfl rfl)
    obtain ⟨cs', h'', hcs⟩ := strips_spec hg (cs := cs) (vs := vs) h' ⟨by have := hv.1; simpa using this, fun j c v h1 h2 => hv.2 (j + 1) c v (by simpa using h1) (by simpa using h2)⟩
    exact ⟨c' :: cs', h'', .cons hc hcs⟩

/-! ### Reading -/
theorem SX.kind (hr : HR w X m E hp) {j : Nat} {o : Obj} (h : hp[j]? = some o) : ∃ s, E[j]? = some s := by
  have hj := (List.getElem?_eq_some_iff.1 h).1
  exact ⟨E[j]'(by rw [hr.len]; exact hj), by simp⟩

/-- A pointer to cells: what lies from there on. -/
def Points (w : World) (S : Nat → Prop) (E : List Slot) (cs : List AV) (x : Value) : Prop :=
  ∃ (b o : Nat) (f : Nat → Value), x = .pointer (some ⟨b, o, none⟩) ∧ (∀ j, j < cs.length → w.cell? ⟨b, o + j, none⟩ = some (f j)) ∧ ∀ (j : Nat) c, cs[j]? = some c → VR w S E c (f j)

theorem Points.drop {S : Nat → Prop} {p q : List AV} {x : Value} (h : Points w S E (p ++ q) x) : ∃ (b o : Nat), x = .pointer (some ⟨b, o, none⟩) ∧ Points w S E q (.pointer (some ⟨b, o + p.length, none⟩)) := by
  obtain ⟨b, o, f, rfl, hc, hv⟩ := h
  refine ⟨b, o, rfl, b, o + p.length, fun j => f (p.length + j), rfl, fun j hj => ?_, fun j c h => hv _ c (by rw [List.getElem?_append_right (by omega)]; simpa using h)⟩
  have := hc (p.length + j) (by simp; omega)
  rw [show o + p.length + j = o + (p.length + j) by omega]
  exact this

theorem Points.load (hT : TOk P T) {t : Nat} {S : Nat → Prop} {p q : List AV} {x : Value} (h : Points w S E (p ++ q) x) (hl : p.length = (T t).size) {val : AV}
    (hv : ((T t).k.agg = true ∧ val = .agg p) ∨ ((T t).k.agg = false ∧ p = [val])) (ho : (T t).k ≠ .other) : ∃ v, (Instr.loadAt t x).run P w = .ok v w ∧ VR w S E val v := by
  obtain ⟨b, of, f, rfl, hc, hr⟩ := h
  obtain ⟨i, d, z, hi, hu, hk, hs, hby, hz, hzo⟩ := hT t ho
  have hvs : VRL w S E p ((List.range p.length).map f) := by
    refine ⟨by simp, fun j c v h1 h2 => ?_⟩
    have hj := (List.getElem?_eq_some_iff.1 h1).1
    simp [hj] at h2
    subst h2
    exact hr j c (by rw [List.getElem?_append_left hj]; exact h1)
  have hcell : ∀ j v, ((List.range p.length).map f)[j]? = some v → w.cell? ⟨b, of + j, none⟩ = some v := by
    intro j v h
    by_cases hj : j < p.length
    · simp [hj] at h
      subst h
      exact hc j (by simp; omega)
    · rw [List.getElem?_eq_none (by simp; omega)] at h
      cases h
  obtain ⟨r1, r2⟩ := run_loadVar (P := P) hi hu hk w b of ((List.range p.length).map f) (by simp [hl, hs]) hcell
  have hrun : ∀ v, (loadVar t ⟨b, of, none⟩).run P w = .ok v w → (Instr.loadAt t (.pointer (some ⟨b, of, none⟩))).run P w = .ok v w := by
    intro v h
    simp only [Instr.loadAt, Instr.sureAddr, Sem.run_bind, Sem.run_pure, Result.andThen_ok, h]
  rcases hv with ⟨ha, rfl⟩ | ⟨ha, rfl⟩
  · exact ⟨_, hrun _ (r1 ha), hvs.agg⟩
  · refine ⟨f 0, hrun _ (r2 ha _ (by simp [List.range_succ])), hr 0 val rfl⟩

theorem points_fz {S : Nat → Prop} {cs : List AV} {x : Value} (h : VR w S E (.fz cs) x) : Points w S [] cs x := by
  cases h with
  | @fz _ _ ad f hsp hs hb hc hv =>
    obtain ⟨b, of, sp⟩ := ad
    simp only at hsp
    subst hsp
    exact ⟨b, of, f, rfl, hc, hv⟩
theorem points_loc (hr : HR w X m E hp) {j off : Nat} {x : Value} {p q : List AV} (h : VR w (SX X E hp) E (.loc j off) x) (ho : hp[j]? = some (.cells (p ++ q))) (hp' : p.length = off) : Points w (SX X E hp) E q x := by
  cases h with
  | @loc _ _ _ b s hE hk hb =>
    obtain ⟨_, b', vs, t, h1, h2, h3, h4⟩ := hr.obj j _ s ho hE
    rw [hb] at h1
    cases h1
    refine ⟨b, off, fun j => (vs.getD (off + j) undef), rfl, fun j hj => ?_, fun j c hc => ?_⟩
    · have hlt : off + j < vs.length := by rw [← h3]; simp; omega
      simp [World.cell?, h2, List.getD_eq_getElem?_getD, hlt]
    · have hj := (List.getElem?_eq_some_iff.1 hc).1
      have hlt : off + j < vs.length := by rw [← h3]; simp; omega
      refine h4 (off + j) c _ (by rw [List.getElem?_append_right (by omega), hp']; simpa using hc) ?_
      simp [List.getD_eq_getElem?_getD, hlt]
theorem points_rloc (hr : HR w X m E hp) {j ver i off : Nat} {x : Value} {α : Type} {enc : α → List AV} {sz : Nat} {d : α} {xs : List α} {p q : List AV} (h : VR w (SX X E hp) E (.rloc j ver i off) x)
    (ho : hp[j]? = some (.row α enc sz d xs ver)) (hi : i < xs.length) (hpq : enc (xs.getD i d) = p ++ q) (hp' : p.length = off) : Points w (SX X E hp) [] q x := by
  cases h with
  | @rloc _ _ _ _ _ s ad hE hk hle hsp hh =>
    obtain ⟨_, h1, h2, h3, h4, h5, h6, hmx, h7⟩ := hr.obj j _ s ho hE
    obtain ⟨b, hb, rfl⟩ := hh h1
    obtain ⟨vs, t, e1, e2, e3⟩ := h7 b hb
    have hx : xs[i]? = some (xs.getD i d) := by simp [List.getD_eq_getElem?_getD, hi]
    have hlen : (enc (xs.getD i d)).length = sz := h5 _ (List.mem_of_getElem? hx)
    have key : ∀ j, j < q.length → ∃ v, vs[i * sz + (off + j)]? = some v ∧ ∀ c, q[j]? = some c → VR w (SX X E hp) [] c v := by
      intro j hj
      have hq : (enc (xs.getD i d))[off + j]? = some q[j] := by rw [hpq, List.getElem?_append_right (by omega), hp']; simp [hj]
      obtain ⟨v, hv, hvr⟩ := e3 i _ (off + j) _ hx hq
      refine ⟨v, hv, fun c hc => ?_⟩
      rw [List.getElem?_eq_getElem hj] at hc
      cases hc
      exact hvr
    refine ⟨b, i * s.sz + off, fun j => vs.getD (i * sz + (off + j)) undef, rfl, fun j hj => ?_, fun j c hc => ?_⟩
    · obtain ⟨v, hv, _⟩ := key j hj
      rw [show i * s.sz + off + j = i * sz + (off + j) by rw [h2]; omega]
      simp [World.cell?, e1, List.getD_eq_getElem?_getD, hv]
    · have hj := (List.getElem?_eq_some_iff.1 hc).1
      obtain ⟨v, hv, hvr⟩ := key j hj
      have := hvr c hc
      simpa [List.getD_eq_getElem?_getD, hv] using this

theorem VR.open {S : Nat → Prop} {c : AV} {v : Value} (h : VR w S [] c v) : VR w S E c v := h.mono (FrameW.refl _ _) (fun _ _ h => h) (fun j s hs => by simp at hs)

theorem Points.run (hT : TOk P T) {t : Nat} {S : Nat → Prop} {E' : List Slot} {cs : List AV} {x : Value} {K : AV → Prop} (h : Points w S E' cs x) (hk : cut cs (T t).size fun l => wrapAV (T t) l K) (ho : (T t).k ≠ .other) :
    ∃ val v, K val ∧ (Instr.loadAt t x).run P w = .ok v w ∧ VR w S E' val v := by
  obtain ⟨p, q, rfl, hl, hw⟩ := cut_spec hk
  obtain ⟨val, hk, hv⟩ := wrap_spec hw
  obtain ⟨v, h1, h2⟩ := h.load hT hl hv ho
  exact ⟨val, v, hk, h1, h2⟩

theorem load_sound (hT : TOk P T) (hg : g = none ∨ g = some true) (hr : HR w X m E hp) {t : Nat} {p : AV} {x : Value} {K : AV → List Nat → Prop} (h : loadE (T t) p hp g K) (ho : (T t).k ≠ .other) (hx : VR w (SX X E hp) E p x) :
    ∃ val v rd, K val rd ∧ (Instr.loadAt t x).run P w = .ok v w ∧ VR w (SX X E hp) E val v := by
  unfold loadE at h
  split at h
  · obtain ⟨val, v, h1, h2, h3⟩ := (points_fz hx).run hT h ho
    exact ⟨val, v, _, h1, h2, h3.open⟩
  · split at h
    · rename_i cs hj
      obtain ⟨p, q, rfl, hl, h⟩ := skip_spec h
      obtain ⟨val, v, h1, h2, h3⟩ := (points_loc hr hx hj hl).run hT h ho
      exact ⟨val, v, _, h1, h2, h3⟩
    · exact h.elim
  · split at h
    · rename_i hj
      obtain ⟨h0, h⟩ := h
      obtain ⟨rfl, hi⟩ := ob_true hg h0
      obtain ⟨p, q, e, hl, h⟩ := skip_spec h
      obtain ⟨val, v, h1, h2, h3⟩ := (points_rloc hr hx hj hi e hl).run hT h ho
      exact ⟨val, v, _, h1, h2, h3.open⟩
    · exact h.elim
  · exact h.elim
end
end Go.Mir
