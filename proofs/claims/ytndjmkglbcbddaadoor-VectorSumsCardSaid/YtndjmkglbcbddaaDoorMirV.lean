/- What a call does, from the function's code. No condition. -/
import Derived.Test.YtndjmkglbcbddaaDoorMirU
set_option linter.unusedVariables false
namespace Go.Mir

/-- The objects that a call made for itself are dropped where nothing refers to them. -/
def dropE (n : Nat) (v : AV) (hp : List Obj) (K : AV → List Obj → Prop) : Prop :=
  match AV.under n v && hpUnder n (hp.take n) && Nat.ble n hp.length with
  | true => K v (hp.take n)
  | false => K v hp

/-- What a function's code ends in. -/
def endE (T : Nat → TI) (n : Nat) (rs : List ResultVar) (K : AV → List Obj → Prop) (e : Exit) (st : St) : Prop :=
  match e with
  | .normal => resE T st rs fun vs => tupE vs fun v => dropE n v st.hp K
  | .ret => resE T st rs fun vs => tupE vs fun v => dropE n v st.hp K
  | _ => False

section
variable {P : Program} {T : Nat → TI}

theorem tup_sound {w : World} {S : Nat → Prop} {E : List Slot} {vs : List AV} {xs : List Value} (hr : VRL w S E vs xs) {K : AV → Prop} (hk : tupE vs K) : ∃ c, K c ∧ VR w S E c (if h : xs.length = 1 then xs[0] else .tuple ⟨xs⟩) := by
  unfold tupE at hk
  split at hk
  · rename_i v
    obtain ⟨x, rfl⟩ : ∃ x, xs = [x] := by
      have := hr.1
      match xs, this with
      | [x], _ => exact ⟨x, rfl⟩
    exact ⟨v, hk, hr.2 0 v x rfl rfl⟩
  · rename_i hne
    refine ⟨_, hk, ?_⟩
    rw [dif_neg]
    · exact hr.tup
    · intro h1
      have := hr.1
      rw [h1] at this
      obtain ⟨v, rfl⟩ := List.length_eq_one_iff.1 this
      exact hne v rfl

/-- A state whose last objects are dropped. -/
theorem cut_sound {w : World} {X : Nat → Prop} {m n : Nat} {E : List Slot} {hp : List Obj} (hr : HR w X m E hp) (hu : hpUnder n (hp.take n) = true) (hn : n ≤ hp.length) :
    HR w X m (E.take n) (hp.take n) ∧ (∀ b, own (E.take n) (hp.take n) b → own E hp b) ∧ ∀ c v, c.under n = true → VR w (SX X E hp) E c v → VR w (SX X (E.take n) (hp.take n)) (E.take n) c v := by
  have hat : ∀ {β : Type 1} {l : List β} {j : Nat} {x : β}, (l.take n)[j]? = some x → l[j]? = some x := by
    intro β l j x h
    rw [List.getElem?_take] at h
    split at h
    · exact h
    · cases h
  have hatE : ∀ {j : Nat} {x : Slot}, (E.take n)[j]? = some x → E[j]? = some x := by
    intro j x h
    rw [List.getElem?_take] at h
    split at h
    · exact h
    · cases h
  have own_le : ∀ b, own (E.take n) (hp.take n) b → own E hp b := by
    rintro b ⟨j, o, s, e1, e2, e3, e4⟩
    exact ⟨j, o, s, hat e1, e2, hatE e3, e4⟩
  have hS : ∀ b, SX X (E.take n) (hp.take n) b → SX X E hp b := fun b h => h.imp id (own_le b)
  have move : ∀ (c : AV) (v : Value), c.under n = true → VR w (SX X E hp) E c v → VR w (SX X (E.take n) (hp.take n)) (E.take n) c v :=
    fun c v hu h => (h.cut hu).mono (FrameW.refl _ _) (fun b _ hb => hS b hb) (.refl _)
  refine ⟨⟨by simp [hr.len], fun j o s e1 e2 => ?_, hr.xlt, fun j o s b hm e1 hl e2 hb => hr.new j o s b hm (hat e1) hl (hatE e2) hb, fun i j oi oj si sj b e1 e2 l1 l2 a1 a2 b1 b2 => hr.inj i j oi oj si sj b (hat e1) (hat e2) l1 l2 (hatE a1) (hatE a2) b1 b2, fun j o s b e1 hl e2 hb => hr.lt j o s b (hat e1) hl (hatE e2) hb⟩, own_le, move⟩
  have hor := hr.obj j o s (hat e1) (hatE e2)
  have hu' : objUnder n o = true := by
    have : ∀ {l : List Obj} {j : Nat}, hpUnder n l = true → l[j]? = some o → objUnder n o = true := by
      intro l
      induction l with
      | nil => intro j _ h; simp at h
      | cons x l ih =>
        intro j h hj
        simp only [hpUnder, Bool.and_eq_true] at h
        cases j with
        | zero => simp at hj; subst hj; exact h.1
        | succ j => exact ih h.2 (by simpa using hj)
    exact this hu e1
  cases o with
  | dead => trivial
  | cells cs =>
    obtain ⟨k1, b, vs, t, k2, k3, k4, k5⟩ := hor
    exact ⟨k1, b, vs, t, k2, k3, k4, fun j c v q1 q2 => move c v (unders_at hu' c (List.mem_of_getElem? q1)) (k5 j c v q1 q2)⟩
  | row α enc sz d xs ver => exact OR.mono (FrameW.refl (SX X E hp) w) (fun b _ hb => hS b hb) (E' := E) (ExtE.refl _) (fun _ _ _ => rfl) hor
  | map κ ν ek ev es => exact OR.mono (FrameW.refl (SX X E hp) w) (fun b _ hb => hS b hb) (E' := E) (ExtE.refl _) (fun _ _ _ => rfl) hor

theorem end_sound (hT : TOk P T) {fn : Func} {w0 w : World} {X : Nat → Prop} {m : Nat} {a : Act} {E0 E : List Slot} {hp0 : List Obj} (hl : E0.length = hp0.length) {st : St} (hs : SR w X m a E st) (hg : GoesM hp0.length w0 E0 hp0 w E st.hp) {K : AV → List Obj → Prop} {e : Exit} (h : endE T hp0.length fn.results.toList K e st) :
    (e = .normal ∨ e = .ret) ∧ ∃ v, (results fn a.tmps).run P w = .ok v w ∧ ∃ r hp' E', K r hp' ∧ HR w X m E' hp' ∧ Goes w0 E0 hp0 w E' hp' ∧ VR w (SX X E' hp') E' r v := by
  have hext : ∀ k, hp0.length ≤ k → ExtE E0 (E.take k) := by
    intro k hk j s hj hne
    have hj' : j < hp0.length := by rw [← hl]; exact (List.getElem?_eq_some_iff.1 hj).1
    obtain ⟨s', h1, h2⟩ := hg.ext j s (by rw [List.getElem?_take, if_pos hj']; exact hj) hne
    rw [List.getElem?_take, if_pos hj'] at h1
    exact ⟨s', by rw [List.getElem?_take, if_pos (by omega)]; exact h1, h2⟩
  have hext' : ExtE E0 E := by
    have := hext (max hp0.length E.length) (by omega)
    rwa [List.take_of_length_le (by omega)] at this
  have key : (resE T st fn.results.toList fun vs => tupE vs fun v => dropE hp0.length v st.hp K) → ∃ v, (results fn a.tmps).run P w = .ok v w ∧ ∃ r hp' E', K r hp' ∧ HR w X m E' hp' ∧ Goes w0 E0 hp0 w E' hp' ∧ VR w (SX X E' hp') E' r v := by
    intro h
    obtain ⟨vs, xs, hk, hr, hrun⟩ := resE_sound hT hs _ h
    have hres : (results fn a.tmps).run P w = .ok (if h : xs.length = 1 then xs[0] else .tuple ⟨xs⟩) w := by
      rw [results_eq, ← Array.toArray_toList (xs := fn.results), List.mapM_toArray]
      simp only [Sem.run_bind, Sem.run_map, hrun, Result.andThen_ok, Sem.run_pure]
      rfl
    refine ⟨_, hres, ?_⟩
    obtain ⟨c, hd, hv⟩ := tup_sound hr hk
    unfold dropE at hd
    split at hd
    · rename_i hb
      simp only [Bool.and_eq_true] at hb
      obtain ⟨c1, c2, c3⟩ := cut_sound hs.hr hb.1.2 (Nat.le_of_ble_eq_true hb.2)
      exact ⟨c, _, _, hd, c1, ⟨hext _ (Nat.le_refl _), hg.frame, fun b hb ho => hg.own b hb (c2 b ho)⟩, c3 _ _ hb.1.1 hv⟩
    · exact ⟨c, _, E, hd, hs.hr, ⟨hext', hg.frame, hg.own⟩, hv⟩
  unfold endE at h
  split at h
  · exact ⟨.inl rfl, key h⟩
  · exact ⟨.inr rfl, key h⟩
  · exact h.elim

/-- A call of a Go function, from its code. -/
theorem CallS.of_code (hT : TOk P T) {f : FuncId} {fn : Func} {c : Code} (hf : P.funcs[f]? = some fn) (hb : fn.body = some c) (hn : (fn.name == "runtime.NumGoroutine") = false) {as : List AV} {hp : List Obj} {K : AV → List Obj → Prop}
    (h : appN as (fn.ntmps - as.length) fun fr => Run P hp.length c (endE T hp.length fn.results.toList K) ⟨fr, hp⟩) : CallS P f as hp K := by
  intro X m w E vs hr hv
  have h := appN_spec h
  have hl := hv.1
  left
  constructor
  · simp only [callFunc, Sem.run_bind, run_program, Result.andThen_ok, hf, hn, Bool.false_eq_true, if_false, hb, Option.isNone_some, Sem.run_pure]
  · refine calls_of_wp hf hb (wp_mono (h X m w _ E ⟨hr, ?_, ?_, rfl⟩) ?_)
    · simp [anys_length, hl]
    · intro t c' hc
      by_cases ht : t < as.length
      · simp only [List.getElem?_append_left ht] at hc
        have ht' : t < vs.length := by rw [← hl]; exact ht
        have : ((⟨vs⟩ : Array Value) ++ Array.replicate (fn.ntmps - (⟨vs⟩ : Array Value).size) undef).getD t undef = vs[t] := by
          simp [Array.getD_eq_getD_getElem?, Array.getElem?_append, ht']
        rw [this]
        exact hv.2 t c' _ hc (by simp [ht'])
      · simp only [List.getElem?_append_right (Nat.le_of_not_lt ht)] at hc
        rw [anys_at _ _ _ hc]
        exact .any
    · rintro e a' w' ⟨st', E', hk, hs', hg⟩
      obtain ⟨he, v, hrun, hrest⟩ := end_sound hT hr.len hs' hg hk
      rcases he with rfl | rfl
      · exact ⟨hs'.defers, v, hrun, v, rfl, hrest⟩
      · exact ⟨hs'.defers, v, hrun, v, rfl, hrest⟩

/-- The contract of a function that only computes, from its call. -/
theorem Spec0.of_call {f : FuncId} {as : List AV} {r : AV} (h : CallS P f as [] fun v _ => AV.closed v = true ∧ VLe v r) : Spec0 P f as r := by
  intro w S vs hS hl hv
  refine (h S 0 w [] vs ⟨rfl, fun j o s h => by simp at h, hS, fun j o s b _ h => by simp at h, fun i j oi oj si sj b h => by simp at h, fun j o s b h => by simp at h⟩ ⟨hl, fun j c v h1 h2 => ?_⟩).mono ?_
  · exact (hv j c v h1 h2).mono (FrameW.refl _ _) (fun b _ h => h.elim id (fun ⟨j, o, s, h1, _⟩ => by simp at h1)) (.refl _)
  · rintro v w' ⟨c', hp', E', ⟨hcl, hle⟩, hr, hg, hvr⟩
    exact ⟨hg.frame.mono fun b _ ⟨j, o, s, h1, _⟩ => by simp at h1, hle _ _ _ _ ((hvr.shut hcl).mono (FrameW.refl _ _) (fun b _ h => .inl h) (.refl _))⟩
end
end Go.Mir
