/- Code: what it does to abstract states; the contract of a function that only computes. No condition. -/
import Derived.Test.YtndjmkglbcbddaaDoorMirR1
import Derived.Deep.LoopGhost
set_option linter.unusedVariables false
namespace Go.Mir

/-- A region. -/
def regionE (P : Program) (T : Nat → TI) (ops : Array Oper) (draw : Bool) (st : St) (K : St → Prop) : Prop :=
  match st with
  | ⟨fr, hp0⟩ => match draw with
    | false => seqE P T (dstsOf ops.toList) ops.toList fr hp0 fun fr' hp' => K ⟨fr', hp'⟩
    | true => lenK hp0 fun n => appD hp0 (newsOf ops.toList) fun hp => opsEff P T (dstsOf ops.toList) ops.toList fr hp n fun fr' hp' es =>
      match bern ops.toList (dstsOf ops.toList) n es with
      | true => K ⟨fr', hp'⟩
      | false => False

/-- The first k objects stay where they are, or grow. -/
structure GoesM (k : Nat) (w : World) (E : List Slot) (hp : List Obj) (w' : World) (E' : List Slot) (hp' : List Obj) : Prop where
  ext : ExtE (E.take k) (E'.take k)
  frame : FrameW (own E hp) w w'
  own : ∀ b, b < w.heap.size → Go.Mir.own E' hp' b → Go.Mir.own E hp b
theorem ExtE.take {E E' : List Slot} (h : ExtE E E') (m : Nat) : ExtE (E.take m) (E'.take m) := by
  intro j s hs hk
  rw [List.getElem?_take] at hs
  split at hs
  · rename_i hj
    obtain ⟨s', h1, h2⟩ := h j s hs hk
    exact ⟨s', by rw [List.getElem?_take, if_pos hj]; exact h1, h2⟩
  · cases hs
theorem Goes.to {k : Nat} {w w' : World} {E E' : List Slot} {hp hp' : List Obj} (h : Goes w E hp w' E' hp') : GoesM k w E hp w' E' hp' := ⟨h.ext.take k, h.frame, h.own⟩
theorem GoesM.refl (k : Nat) (w : World) (E : List Slot) (hp : List Obj) : GoesM k w E hp w E hp := (Goes.refl w E hp).to
theorem GoesM.trans {k : Nat} {w w1 w2 : World} {E E1 E2 : List Slot} {hp hp1 hp2 : List Obj} (h : GoesM k w E hp w1 E1 hp1) (h1 : GoesM k w1 E1 hp1 w2 E2 hp2) : GoesM k w E hp w2 E2 hp2 :=
  ⟨h.ext.trans h1.ext, h.frame.trans h1.frame h.own, fun b hb ho => h.own b hb (h1.own b (Nat.lt_of_lt_of_le hb h.frame.size) ho)⟩

/-- Code, run from a state, ends so. -/
def Run (P : Program) (k : Nat) (c : Code) (K : Exit → St → Prop) (st : St) : Prop :=
  ∀ (X : Nat → Prop) (m : Nat) (w : World) (a : Act) (E : List Slot), SR w X m a E st → c.wp P (fun e a' w' => ∃ st' E', K e st' ∧ SR w' X m a' E' st' ∧ GoesM k w E st.hp w' E' st'.hp) a w

def codeE (P : Program) (T : Nat → TI) (k : Nat) : Code → (Exit → St → Prop) → St → Prop
  | .skip, K, st => K .normal st
  | .label _, K, st => K .normal st
  | .region _ ops draw, K, st => regionE P T ops draw st fun st' => K .normal st'
  | .seq x y, K, st => codeE P T k x (fun e st' => match e with
    | .normal => codeE P T k y K st'
    | e => K e st') st
  | .cond c x y, K, st => match evalAV st.fr c with
    | .bool b => (b = true → codeE P T k x K st) ∧ (b = false → codeE P T k y K st)
    | _ => False
  | .block id body, K, st => codeE P T k body (fun e st' => match e with
    | .exit id' => match Nat.beq id' id with
      | true => K .normal st'
      | false => K (.exit id') st'
    | e => K e st') st
  | .exit id, K, st => K (.exit id) st
  | .ret, K, st => K .ret st
  | .loop body, K, st => Run P k (.loop body) K st
  | _, _, _ => False

section
variable {P : Program} {T : Nat → TI} {k : Nat}

theorem match_true {b : Bool} {p : Prop} (h : match b with | true => p | false => False) : b = true ∧ p := by
  cases b with
  | true => exact ⟨rfl, h⟩
  | false => exact h.elim
theorem region_sound (hT : TOk P T) (hm : P.follows .mixedOrders = true) {id : Nat} {ops : Array Oper} {draw : Bool} {st : St} {K : St → Prop} (h : regionE P T ops draw st K) : Run P k (.region id ops draw) (fun e st' => e = .normal ∧ K st') st := by
  intro X m w a E hs
  obtain ⟨fr, hp0⟩ := st
  cases draw with
  | false =>
    refine wp_region ?_
    have := seq_sound (Q := fun e a' w' => ∃ st' E', (e = .normal ∧ K st') ∧ SR w' X m a' E' st' ∧ GoesM k w E hp0 w' E' st'.hp) hT rfl ops.toList 0 rfl hs h fun fr' hp' hk a' w' E' hs2 hg2 => ⟨⟨fr', hp'⟩, E', ⟨rfl, hk⟩, hs2, hg2.to⟩
    simpa using this
  | true =>
    obtain ⟨hs', hg, hroom⟩ := hs.deads (newsOf ops.toList)
    obtain ⟨cs, es, hcl, hel, hbk, hout⟩ := extract_all ops.toList (appD_spec (lenK_spec h))
    obtain ⟨hb, hk⟩ := match_true hbk
    refine wp_region_any hm ?_
    have hdf : FrameW (fun _ => False) w { w with drawn := w.drawn + 1 } := ⟨rfl, rfl, rfl, Nat.le_refl _, fun _ _ _ => rfl⟩
    have hs2 := hs'.grow hdf
    refine any_sound hT rfl hcl hel hb hout (w0 := w) (E0 := E ++ List.replicate (newsOf ops.toList) Slot.none) hroom (fun a' w' E' h1 h2 => ⟨_, E', ⟨rfl, hk⟩, h1, (hg.trans h2).to⟩) ops.size (Array.replicate ops.size false) a _ (E ++ List.replicate (newsOf ops.toList) Slot.none) (by simp) (by simp) (fun i o k hd => ?_) ?_ ?_ fun j hj hl _ => (hroom j hj hl).2
    · simp [Array.getD] at hd
    · have e1 : ∀ {β : Type _} (L : List (List (Nat × β))) (k : Nat) (l : List β), runD (fun i => (Array.replicate ops.size false).getD i false) k L l = l := by
        intro β L
        induction L with
        | nil => intro k l; rfl
        | cons q L ih =>
          intro k l
          have hf : (Array.replicate ops.size false).getD k false = false := by
            simp only [Array.getD]
            split <;> simp
          simp only [runD, hf, Bool.false_eq_true, if_false]
          exact ih (k + 1) l
      rw [e1, e1]
      exact hs2
    · have e1 : ∀ {β : Type _} (L : List (List (Nat × β))) (k : Nat) (l : List β), runD (fun i => (Array.replicate ops.size false).getD i false) k L l = l := by
        intro β L
        induction L with
        | nil => intro k l; rfl
        | cons q L ih =>
          intro k l
          have hf : (Array.replicate ops.size false).getD k false = false := by
            simp only [Array.getD]
            split <;> simp
          simp only [runD, hf, Bool.false_eq_true, if_false]
          exact ih (k + 1) l
      rw [e1]
      exact ⟨ExtE.refl _, hdf.mono fun _ _ h => h.elim, fun _ _ h => h⟩

theorem Run.mono {c : Code} {K K' : Exit → St → Prop} {st : St} (h : Run P k c K st) (hk : ∀ e st, K e st → K' e st) : Run P k c K' st :=
  fun X m w a E hs => wp_mono (h X m w a E hs) fun e a w ⟨st', E', k, r⟩ => ⟨st', E', hk _ _ k, r⟩

theorem codeE_sound (hT : TOk P T) (hm : P.follows .mixedOrders = true) : ∀ (c : Code) {K : Exit → St → Prop} {st : St}, codeE P T k c K st → Run P k c K st
  | .skip, K, st, h => fun X m w a E hs => wp_skip ⟨st, E, h, hs, GoesM.refl _ _ _ _⟩
  | .label _, K, st, h => fun X m w a E hs => wp_label ⟨st, E, h, hs, GoesM.refl _ _ _ _⟩
  | .region _ ops draw, K, st, h => (region_sound hT hm h).mono fun e st' ⟨e1, h1⟩ => by rw [e1]; exact h1
  | .seq x y, K, st, h => fun X m w a E hs => by
    refine wp_seq (wp_mono (codeE_sound hT hm x h X m w a E hs) fun e a' w' ⟨st', E', hk, hs', hg⟩ => ?_)
    cases e with
    | normal => exact wp_mono (codeE_sound hT hm y hk X m w' a' E' hs') fun e a2 w2 ⟨st2, E2, k2, s2, g2⟩ => ⟨st2, E2, k2, s2, hg.trans g2⟩
    | exit id => exact ⟨st', E', hk, hs', hg⟩
    | goto l => exact ⟨st', E', hk, hs', hg⟩
    | ret => exact ⟨st', E', hk, hs', hg⟩
    | panic ch => exact ⟨st', E', hk, hs', hg⟩
    | outgrown => exact ⟨st', E', hk, hs', hg⟩
  | .cond c x y, K, st, h => fun X m w a E hs => by
    simp only [codeE] at h
    have hv := evalAV_sound hs.len hs.tmp c
    split at h
    · rename_i b hb
      rw [hb] at hv
      exact wp_cond_split (bool_inv hv) (fun hb => codeE_sound hT hm x (h.1 hb) X m w a E hs) (fun hb => codeE_sound hT hm y (h.2 hb) X m w a E hs)
    · exact h.elim
  | .block id body, K, st, h => fun X m w a E hs => by
    refine wp_block (wp_mono (codeE_sound hT hm body h X m w a E hs) fun e a' w' ⟨st', E', hk, hs', hg⟩ => ?_)
    cases e with
    | exit id' =>
      simp only [Exit.inBlock]
      simp only at hk
      split at hk
      · rename_i hb
        rw [if_pos (Nat.eq_of_beq_eq_true hb)]
        exact ⟨st', E', hk, hs', hg⟩
      · rename_i hb
        rw [if_neg (Nat.ne_of_beq_eq_false hb)]
        exact ⟨st', E', hk, hs', hg⟩
    | normal => exact ⟨st', E', hk, hs', hg⟩
    | goto l => exact ⟨st', E', hk, hs', hg⟩
    | ret => exact ⟨st', E', hk, hs', hg⟩
    | panic ch => exact ⟨st', E', hk, hs', hg⟩
    | outgrown => exact ⟨st', E', hk, hs', hg⟩
  | .exit id, K, st, h => fun X m w a E hs => wp_exit ⟨st, E, h, hs, GoesM.refl _ _ _ _⟩
  | .ret, K, st, h => fun X m w a E hs => wp_ret ⟨st, E, h, hs, GoesM.refl _ _ _ _⟩
  | .loop body, K, st, h => h
  | .rangeFunc _ _ _ _, _, _, h => h.elim
  | .scope _, _, _, h => h.elim
  | .goto _, _, _, h => h.elim
  | .refuse _, _, _, h => h.elim

/-! ### Weaker states -/
/-- What is known of a state is known of the other one. -/
def Le (k : Nat) (st st' : St) : Prop := ∀ (X : Nat → Prop) (m : Nat) (w : World) (a : Act) (E : List Slot), SR w X m a E st → ∃ E', SR w X m a E' st' ∧ GoesM k w E st.hp w E' st'.hp
theorem Le.refl (k : Nat) (st : St) : Le k st st := fun X m w a E h => ⟨E, h, GoesM.refl _ _ _ _⟩
theorem Le.trans {k : Nat} {a b c : St} (h : Le k a b) (h1' : Le k b c) : Le k a c := fun X m w ac E hs =>
  let ⟨E1, h1, g1⟩ := h X m w ac E hs
  let ⟨E2, h2, g2⟩ := h1' X m w ac E1 h1
  ⟨E2, h2, g1.trans g2⟩
theorem Run.le {c : Code} {K : Exit → St → Prop} {st st' : St} (hl : Le k st st') (h : Run P k c K st') : Run P k c K st := fun X m w a E hs =>
  let ⟨E', hs', hg⟩ := hl X m w a E hs
  wp_mono (h X m w a E' hs') fun e a w ⟨st2, E2, k, s, g⟩ => ⟨st2, E2, k, s, hg.trans g⟩

/-- A loop, by what holds at each round's head and a measure. -/
theorem Run.loop {body : Code} {K : Exit → St → Prop} {st : St} {ι : Type} (I : ι → St) (μ : ι → Nat) (i0 : ι) (h0 : Le k st (I i0))
    (step : ∀ i, Run P k body (fun e st' => match e with | .normal => ∃ i', μ i' < μ i ∧ Le k st' (I i') | e => K e st') (I i)) : Run P k (.loop body) K st := by
  intro X m w a E hs
  obtain ⟨E0, hs0, hg0⟩ := h0 X m w a E hs
  refine wp_loop_ghost (fun n a' w' => ∃ i E', μ i = n ∧ SR w' X m a' E' (I i) ∧ GoesM k w E st.hp w' E' (I i).hp) (μ i0) ⟨i0, E0, rfl, hs0, hg0⟩ ?_
  rintro n a' w' ⟨i, E', rfl, hs', hg'⟩
  refine wp_mono (step i X m w' a' E' hs') fun e a2 w2 ⟨st2, E2, hk, hs2, hg2⟩ => ?_
  cases e with
  | normal =>
    obtain ⟨i', hlt, hle⟩ := hk
    obtain ⟨E3, hs3, hg3⟩ := hle X m w2 a2 E2 hs2
    exact ⟨μ i', hlt, i', E3, rfl, hs3, (hg'.trans hg2).trans hg3⟩
  | exit id => exact ⟨st2, E2, hk, hs2, hg'.trans hg2⟩
  | goto l => exact ⟨st2, E2, hk, hs2, hg'.trans hg2⟩
  | ret => exact ⟨st2, E2, hk, hs2, hg'.trans hg2⟩
  | panic ch => exact ⟨st2, E2, hk, hs2, hg'.trans hg2⟩
  | outgrown => exact ⟨st2, E2, hk, hs2, hg'.trans hg2⟩

/-- A loop, one round at a time. -/
theorem Run.unroll {body : Code} {K : Exit → St → Prop} {st : St} (n : Nat) (I : Nat → St → Prop) (h0 : I n st)
    (step : ∀ n st, I n st → Run P k body (fun e st' => match e with | .normal => ∃ n', n' < n ∧ I n' st' | e => K e st') st) : Run P k (.loop body) K st := by
  intro X m w a E hs
  refine wp_loop_ghost (fun n a' w' => ∃ st' E', I n st' ∧ SR w' X m a' E' st' ∧ GoesM k w E st.hp w' E' st'.hp) n ⟨st, E, h0, hs, GoesM.refl _ _ _ _⟩ ?_
  rintro n a' w' ⟨st', E', hi, hs', hg'⟩
  refine wp_mono (step n st' hi X m w' a' E' hs') fun e a2 w2 ⟨st2, E2, hk, hs2, hg2⟩ => ?_
  cases e with
  | normal =>
    obtain ⟨n', hlt, hi'⟩ := hk
    exact ⟨n', hlt, st2, E2, hi', hs2, hg'.trans hg2⟩
  | exit id => exact ⟨st2, E2, hk, hs2, hg'.trans hg2⟩
  | goto l => exact ⟨st2, E2, hk, hs2, hg'.trans hg2⟩
  | ret => exact ⟨st2, E2, hk, hs2, hg'.trans hg2⟩
  | panic ch => exact ⟨st2, E2, hk, hs2, hg'.trans hg2⟩
  | outgrown => exact ⟨st2, E2, hk, hs2, hg'.trans hg2⟩
end
end Go.Mir
