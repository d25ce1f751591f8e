/- Contracts from code; weaker states, reckoned. No condition. -/
import Derived.Test.YtndjmkglbcbddaaDoorMirS
set_option linter.unusedVariables false
namespace Go.Mir

/-- A loop of a few rounds. -/
def roundsE (P : Program) (T : Nat → TI) (m : Nat) (body : Code) : Nat → (Exit → St → Prop) → St → Prop
  | 0, _, _ => False
  | n + 1, K, st => codeE P T m body (fun e st' => match e with
    | .normal => roundsE P T m body n K st'
    | e => K e st') st

/-- The results. -/
def resE (T : Nat → TI) (st : St) : List ResultVar → (List AV → Prop) → Prop
  | [], K => K []
  | .tmp t :: rs, K => match st.fr[t]? with
    | some v => resE T st rs fun vs => K (v :: vs)
    | none => False
  | .cell a t :: rs, K => match st.fr[a]? with
    | some (.loc j 0) => match st.hp[j]? with
      | some (.cells cs) => known (T t) <| cut cs (T t).size fun l => wrapAV (T t) l fun v => resE T st rs fun vs => K (v :: vs)
      | _ => False
    | _ => False

def tupE (vs : List AV) (K : AV → Prop) : Prop :=
  match vs with
  | [v] => K v
  | vs => K (.tup vs)

/-- What a function's code ends in. -/
def retE (T : Nat → TI) (rs : List ResultVar) (K : AV → Prop) (e : Exit) (st : St) : Prop :=
  match e with
  | .normal => resE T st rs fun vs => tupE vs fun v => AV.closed v = true ∧ K v
  | .ret => resE T st rs fun vs => tupE vs fun v => AV.closed v = true ∧ K v
  | _ => False

/-- One value's reading is the other's. -/
def VLe (c d : AV) : Prop := ∀ (w : World) (S : Nat → Prop) (E : List Slot) (v : Value), VR w S E c v → VR w S E d v
theorem VLe.refl (c : AV) : VLe c c := fun _ _ _ _ h => h
theorem VLe.of_eq {c d : AV} (h : c = d) : VLe c d := h ▸ VLe.refl c
theorem VLe.any (c : AV) : VLe c .any := fun _ _ _ _ _ => .any
theorem VLe.nils {α : Type} {enc : α → List AV} {sz : Nat} {d : α} : VLe .nils (.sl α enc sz d []) := fun w S E v h => by
  cases h
  exact .sl ⟨0, 0, none⟩ (fun _ _ => undef) rfl (by omega) (Nat.le_refl _) (fun h => absurd h (by omega)) rfl (fun h => absurd h (by omega)) (fun h => absurd h (by omega)) (fun x hx => by cases hx) (fun i j h => absurd h (by omega)) (fun i x j c h => by simp at h)

section
variable {P : Program} {T : Nat → TI}

theorem roundsE_sound (hT : TOk P T) (hm : P.follows .mixedOrders = true) {m : Nat} {body : Code} {n : Nat} {K : Exit → St → Prop} {st : St} (h : roundsE P T m body n K st) : Run P m (.loop body) K st :=
  .unroll n (fun n st => roundsE P T m body n K st) h fun n st h => by
    cases n with
    | zero => exact h.elim
    | succ n =>
      refine (codeE_sound hT hm body h).mono fun e st' hk => ?_
      cases e <;> first | exact ⟨n, Nat.lt_succ_self n, hk⟩ | exact hk

theorem anys_length : ∀ n, (anys n).length = n
  | 0 => rfl
  | n + 1 => by simp [anys, anys_length n]
theorem anys_at : ∀ (n i : Nat) c, (anys n)[i]? = some c → c = .any
  | 0, i, c, h => by simp [anys] at h
  | n + 1, 0, c, h => by simp [anys] at h; exact h.symm
  | n + 1, i + 1, c, h => anys_at n i c (by simpa [anys] using h)

def resV (tmps : Array Value) : ResultVar → Sem Value
  | .tmp t => pure (tmps.getD t undef)
  | .cell b t => do loadVar t (← asAddr (tmps.getD b undef))

theorem results_eq (fn : Func) (tmps : Array Value) : results fn tmps = (do
    let vs ← fn.results.mapM (resV tmps)
    pure (if h : vs.size = 1 then vs[0] else .tuple vs)) := by
  unfold results
  congr 2

theorem resE_sound (hT : TOk P T) {w : World} {X : Nat → Prop} {m : Nat} {a : Act} {E : List Slot} {st : St} (hs : SR w X m a E st) : ∀ (rs : List ResultVar) {K : List AV → Prop}, resE T st rs K →
    ∃ vs xs, K vs ∧ VRL w (SX X E st.hp) E vs xs ∧ (rs.mapM (resV a.tmps)).run P w = .ok xs w
  | [], K, h => ⟨[], [], h, .nil, rfl⟩
  | .tmp t :: rs, K, h => by
    simp only [resE] at h
    split at h
    · rename_i v hv
      obtain ⟨vs, xs, hk, hr, hrun⟩ := resE_sound hT hs rs h
      exact ⟨_, _ :: xs, hk, .cons (hs.tmp t v hv) hr, by simp only [List.mapM_cons, Sem.run_bind, resV, Sem.run_pure, Result.andThen_ok, hrun]⟩
    · exact h.elim
  | .cell b t :: rs, K, h => by
    simp only [resE] at h
    split at h
    · rename_i j hv
      split at h
      · rename_i cs hj
        obtain ⟨hk, h⟩ := known_spec h
        obtain ⟨p, q, rfl, hl, h⟩ := cut_spec h
        obtain ⟨val, h, hval⟩ := wrap_spec h
        obtain ⟨vs, xs, hkk, hr, hrun⟩ := resE_sound hT hs rs h
        have hvr := hs.tmp b _ hv
        have hpt := points_loc (p := []) (q := p ++ q) hs.hr hvr hj rfl
        obtain ⟨v, hrun1, hv1⟩ := hpt.load hT hl hval hk
        obtain ⟨b', o', f', e1, _⟩ := hpt
        refine ⟨_, v :: xs, hkk, .cons hv1 hr, ?_⟩
        rw [e1] at hrun1
        simp only [Instr.loadAt, Instr.sureAddr, Sem.run_bind, Sem.run_pure, Result.andThen_ok] at hrun1
        simp only [List.mapM_cons, Sem.run_bind, resV, e1, asAddr, Sem.run_pure, Result.andThen_ok, hrun1, hrun]
      · exact h.elim
    · exact h.elim

theorem ret_sound (hT : TOk P T) {fn : Func} {w : World} {X : Nat → Prop} {m : Nat} {a : Act} {E : List Slot} {st : St} (hs : SR w X m a E st) {K : AV → Prop} {e : Exit} (h : retE T fn.results.toList K e st) :
    (e = .normal ∨ e = .ret) ∧ ∃ c v, K c ∧ AV.closed c = true ∧ (results fn a.tmps).run P w = .ok v w ∧ VR w (SX X E st.hp) E c v := by
  have key : (resE T st fn.results.toList fun vs => tupE vs fun v => AV.closed v = true ∧ K v) → ∃ c v, K c ∧ AV.closed c = true ∧ (results fn a.tmps).run P w = .ok v w ∧ VR w (SX X E st.hp) E c v := by
    intro h
    obtain ⟨vs, xs, hk, hr, hrun⟩ := resE_sound hT hs _ h
    have hres : (results fn a.tmps).run P w = .ok (if h : xs.length = 1 then xs[0] else .tuple ⟨xs⟩) w := by
      rw [results_eq, ← Array.toArray_toList (xs := fn.results), List.mapM_toArray]
      simp only [Sem.run_bind, Sem.run_map, hrun, Result.andThen_ok, Sem.run_pure]
      rfl
    unfold tupE at hk
    split at hk
    · rename_i v
      obtain ⟨x, rfl⟩ : ∃ x, xs = [x] := by
        have := hr.1
        match xs, this with
        | [x], _ => exact ⟨x, rfl⟩
      exact ⟨v, x, hk.2, hk.1, by rw [hres]; rfl, hr.2 0 v x rfl rfl⟩
    · rename_i hne
      refine ⟨_, .tuple ⟨xs⟩, hk.2, hk.1, ?_, hr.tup⟩
      rw [hres, dif_neg]
      intro h1
      have := hr.1
      rw [h1] at this
      obtain ⟨v, rfl⟩ := List.length_eq_one_iff.1 this
      exact hne v rfl
  unfold retE at h
  split at h
  · exact ⟨.inl rfl, key h⟩
  · exact ⟨.inr rfl, key h⟩
  · exact h.elim

/-- The contract of a function that only computes, from its code. -/
theorem spec0_of (hT : TOk P T) (hm : P.follows .mixedOrders = true) {f : FuncId} {fn : Func} {c : Code} (hf : P.funcs[f]? = some fn) (hb : fn.body = some c) (hn : (fn.name == "runtime.NumGoroutine") = false) {as : List AV} {r : AV}
    (h : appN as (fn.ntmps - as.length) fun fr => Run P 0 c (retE T fn.results.toList fun v => VLe v r) ⟨fr, []⟩) : Spec0 P f as r := by
  intro w S vs hS hl hv
  have h := appN_spec h
  left
  constructor
  · simp only [callFunc, Sem.run_bind, run_program, Result.andThen_ok, hf, hn, Bool.false_eq_true, if_false, hb, Option.isNone_some, Sem.run_pure]
  · refine calls_of_wp hf hb (wp_mono (h S 0 w _ [] ⟨⟨rfl, fun j o s h => by simp at h, hS, fun j o s b _ h => by simp at h, fun i j oi oj si sj b h => by simp at h, fun j o s b h => by simp at h⟩, ?_, ?_, rfl⟩) ?_)
    · simp [anys_length, hl]
    · intro t c' hc
      by_cases ht : t < as.length
      · simp only [List.getElem?_append_left ht] at hc
        have ht' : t < vs.length := by rw [← hl]; exact ht
        have : ((⟨vs⟩ : Array Value) ++ Array.replicate (fn.ntmps - (⟨vs⟩ : Array Value).size) undef).getD t undef = vs[t] := by
          simp [Array.getD_eq_getD_getElem?, Array.getElem?_append, ht']
        rw [this]
        exact (hv t c' _ hc (by simp [ht'])).mono (FrameW.refl _ _) (fun b _ h => h.elim id (fun ⟨j, o, s, h1, _⟩ => by simp at h1)) (.refl _)
      · simp only [List.getElem?_append_right (Nat.le_of_not_lt ht)] at hc
        rw [anys_at _ _ _ hc]
        exact .any
    · rintro e a' w' ⟨st', E', hk, hs', hg⟩
      obtain ⟨he, c', v, hle, hcl, hrun, hvr⟩ := ret_sound hT hs' hk
      have hframe : FrameW (fun _ => False) w w' := hg.frame.mono fun b _ ⟨j, o, s, h1, _⟩ => by simp at h1
      have hfin : VR w' S [] r v := hle _ _ _ _ ((hvr.shut hcl).mono (FrameW.refl _ _) (fun b _ h => .inl h) (.refl _))
      rcases he with rfl | rfl
      · exact ⟨hs'.defers, v, hrun, v, rfl, hframe, hfin⟩
      · exact ⟨hs'.defers, v, hrun, v, rfl, hframe, hfin⟩
end
end Go.Mir
