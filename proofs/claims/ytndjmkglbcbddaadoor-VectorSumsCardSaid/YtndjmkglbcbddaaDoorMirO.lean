/- Regions that don't draw: one operation after the other. No condition. -/
import Derived.Test.YtndjmkglbcbddaaDoorMirN
import Derived.Orders
set_option linter.unusedVariables false
namespace Go.Mir

def setO (fr : List AV) (dst : Option Nat) (c : AV) : List AV :=
  match dst with
  | none => fr
  | some d => fr.set d c

def guardE (dsts : List (Option Nat)) (fr : List AV) (gd : Option (Nat × Bool)) (K : Option Bool → Prop) : Prop :=
  match gd with
  | none => K none
  | some (j, want) => match dsts[j]? with
    | some (some t) => match fr[t]? with
      | some (.bool c) => match want with
        | true => K (some c)
        | false => K (some (!c))
      | some (.when b (.bool c)) => match want with
        | true => K (some (b && c))
        | false => K (some (b && !c))
      | _ => False
    | _ => False

def putC : List AV → Nat → AV → (List AV → Prop) → Prop
  | [], _, _, _ => False
  | _ :: cs, 0, v, K => K (v :: cs)
  | c :: cs, n + 1, v, K => putC cs n v fun l => K (c :: l)
def putO (fr : List AV) (dst : Option Nat) (v : AV) (K : List AV → Prop) : Prop :=
  match dst with
  | none => K fr
  | some d => headW v fun v => putC fr d v K
/-- The objects, with n places behind them. -/
def deadC : Nat → (List Obj → Prop) → Prop
  | 0, K => K []
  | n + 1, K => deadC n fun r => K (.dead :: r)
def appD : List Obj → Nat → (List Obj → Prop) → Prop
  | [], n, K => deadC n K
  | h :: hs, n, K => appD hs n fun r => K (h :: r)
def setC : List Obj → Nat → Obj → (List Obj → Prop) → Prop
  | [], _, _, _ => False
  | _ :: hs, 0, o, K => K (o :: hs)
  | h :: hs, n + 1, o, K => setC hs n o fun l => K (h :: l)
def setsC (b : Nat) (hp : List Obj) : List (Nat × Obj) → (List Obj → Prop) → Prop
  | [], K => K hp
  | (j, o) :: wr, K => match Nat.blt j b with
    | true => setC hp j o fun hp' => setsC b hp' wr K
    | false => False
/-- A guarded operation writes nothing. -/
def still (g : Option Bool) (wr : List (Nat × Obj)) (p : Prop) : Prop :=
  match g with
  | none => p
  | some _ => match wr with
    | [] => p
    | _ => False
def finC (g : Option Bool) (v : AV) (K : AV → Prop) : Prop :=
  match g with
  | none => K v
  | some b => match v with
    | .when b' v' => K (.when (b && b') v')
    | v => K (.when b v)

/-- The operations, one after the other. -/
def opsEff (P : Program) (T : Nat → TI) (dsts : List (Option Nat)) : List Oper → List AV → List Obj → Nat → (List AV → List Obj → List Eff → Prop) → Prop
  | [], fr, hp, _, K => K fr hp []
  | o :: os, fr, hp, n, K => guardE dsts fr o.guard fun g => opEff P T g o.op (evalAV fr) hp n fun val wr rd => still g wr <| finC g val fun v => putO fr o.dst v fun fr' => setsC (n + news o.op) hp wr fun hp' =>
      opsEff P T dsts os fr' hp' (n + news o.op) fun fr'' hp'' es => K fr'' hp'' (⟨val, wr, rd⟩ :: es)

def dstsOf (ops : List Oper) : List (Option Nat) := ops.map (·.dst)
def newsOf (ops : List Oper) : Nat := (ops.map fun o => news o.op).sum
def deads : Nat → List Obj
  | 0 => []
  | n + 1 => .dead :: deads n
def appC : List Obj → List Obj → (List Obj → Prop) → Prop
  | [], l, K => K l
  | h :: hs, l, K => appC hs l fun r => K (h :: r)

section
theorem putC_spec : ∀ {fr : List AV} {d : Nat} {v : AV} {K : List AV → Prop}, putC fr d v K → d < fr.length ∧ K (fr.set d v)
  | [], _, _, _, h => h.elim
  | c :: cs, 0, v, K, h => ⟨by simp, h⟩
  | c :: cs, n + 1, v, K, h => by
    obtain ⟨h1, h2⟩ := putC_spec (fr := cs) h
    exact ⟨by simp; omega, h2⟩
theorem setC_spec : ∀ {hp : List Obj} {j : Nat} {o : Obj} {K : List Obj → Prop}, setC hp j o K → j < hp.length ∧ K (hp.set j o)
  | [], _, _, _, h => h.elim
  | c :: cs, 0, v, K, h => ⟨by simp, h⟩
  | c :: cs, n + 1, v, K, h => by
    obtain ⟨h1, h2⟩ := setC_spec (hp := cs) h
    exact ⟨by simp; omega, h2⟩
theorem updl_length (hp : List Obj) : ∀ wr, (updl hp wr).length = hp.length := by
  intro wr
  induction wr generalizing hp with
  | nil => rfl
  | cons p wr ih => simp only [updl, List.foldl_cons] at ih ⊢; rw [ih]; simp
theorem updl_other (hp : List Obj) : ∀ (wr : List (Nat × Obj)) (j : Nat), (∀ p ∈ wr, p.1 ≠ j) → (updl hp wr)[j]? = hp[j]? := by
  intro wr
  induction wr generalizing hp with
  | nil => exact fun j _ => rfl
  | cons p wr ih =>
    intro j hj
    simp only [updl, List.foldl_cons] at ih ⊢
    rw [ih (hp.set p.1 p.2) j fun q hq => hj q (by simp [hq]), List.getElem?_set_ne (hj p (by simp))]
theorem setsC_spec {b : Nat} : ∀ {wr : List (Nat × Obj)} {hp : List Obj} {K : List Obj → Prop}, setsC b hp wr K → (∀ p ∈ wr, p.1 < hp.length ∧ p.1 < b) ∧ K (updl hp wr)
  | [], hp, K, h => ⟨fun _ h => (by cases h), h⟩
  | (j, o) :: wr, hp, K, h => by
    simp only [setsC] at h
    split at h
    · rename_i hb
      obtain ⟨h1, h2⟩ := setC_spec h
      obtain ⟨h3, h4⟩ := setsC_spec h2
      refine ⟨fun p hp' => ?_, h4⟩
      rcases List.mem_cons.1 hp' with rfl | hp'
      · exact ⟨h1, Nat.le_of_ble_eq_true hb⟩
      · simpa using h3 p hp'
    · exact h.elim
theorem putO_spec {fr : List AV} {dst : Option Nat} {v : AV} {K : List AV → Prop} (h : putO fr dst v K) : (∀ d, dst = some d → d < fr.length) ∧ K (setO fr dst v) := by
  unfold putO at h
  split at h
  · exact ⟨fun d hd => (by cases hd), h⟩
  · obtain ⟨h1, h2⟩ := putC_spec (headW_spec h)
    exact ⟨fun d hd => by cases hd; exact h1, h2⟩
theorem guardE_mono {dsts : List (Option Nat)} {fr : List AV} {gd : Option (Nat × Bool)} {K K' : Option Bool → Prop} (h : guardE dsts fr gd K) (hk : ∀ g, K g → K' g) : guardE dsts fr gd K' := by
  unfold guardE at h ⊢
  repeat' split at h
  all_goals first | exact hk _ h | exact h.elim | (simp only [*]; exact hk _ h)
theorem opEff_mono {P : Program} {T : Nat → TI} {g : Option Bool} {op : Op} {ev : Operand → AV} {hp : List Obj} {n : Nat} {K K' : AV → List (Nat × Obj) → List Nat → Prop} (h : opEff P T g op ev hp n K) (hk : ∀ v w r, K v w r → K' v w r) : opEff P T g op ev hp n K' := by
  obtain ⟨x, h1, h2⟩ := opEff_loc (P := P) (T := T) (g := g) op ev n hp (fun x => K x.val x.wr x.rd) h
  exact h2 hp (fun _ _ => rfl) (fun x => K' x.val x.wr x.rd) (hk _ _ _ h1)
theorem still_mono {g : Option Bool} {wr : List (Nat × Obj)} {p q : Prop} (h : still g wr p) (hk : p → q) : still g wr q := by
  unfold still at h ⊢
  repeat' split at h
  all_goals first | exact hk h | exact h.elim
theorem finC_mono {g : Option Bool} {v : AV} {K K' : AV → Prop} (h : finC g v K) (hk : ∀ v, K v → K' v) : finC g v K' := by
  unfold finC at h ⊢
  repeat' split at h
  all_goals exact hk _ h
theorem deads_length : ∀ n, (deads n).length = n
  | 0 => rfl
  | n + 1 => by simp [deads, deads_length n]
theorem deads_at : ∀ (n i : Nat), i < n → (deads n)[i]? = some .dead
  | n + 1, 0, _ => rfl
  | n + 1, i + 1, h => by simpa [deads] using deads_at n i (by omega)
theorem deadC_spec : ∀ {n : Nat} {K : List Obj → Prop}, deadC n K → K (deads n)
  | 0, K, h => h
  | n + 1, K, h => deadC_spec (n := n) h
theorem appD_spec : ∀ {l : List Obj} {n : Nat} {K : List Obj → Prop}, appD l n K → K (l ++ deads n)
  | [], n, K, h => deadC_spec h
  | x :: l, n, K, h => appD_spec (l := l) h
theorem appC_spec : ∀ {l r : List Obj} {K : List Obj → Prop}, appC l r K → K (l ++ r)
  | [], r, K, h => h
  | x :: l, r, K, h => appC_spec (l := l) h
end

/-- One state becomes another. -/
structure Goes (w : World) (E : List Slot) (hp : List Obj) (w' : World) (E' : List Slot) (hp' : List Obj) : Prop where
  ext : ExtE E E'
  frame : FrameW (own E hp) w w'
  own : ∀ b, b < w.heap.size → Go.Mir.own E' hp' b → Go.Mir.own E hp b
theorem Goes.refl (w : World) (E : List Slot) (hp : List Obj) : Goes w E hp w E hp := ⟨.refl _, .refl _ _, fun _ _ h => h⟩
theorem Goes.trans {w w1 w2 : World} {E E1 E2 : List Slot} {hp hp1 hp2 : List Obj} (h : Goes w E hp w1 E1 hp1) (k : Goes w1 E1 hp1 w2 E2 hp2) : Goes w E hp w2 E2 hp2 :=
  ⟨h.ext.trans k.ext, h.frame.trans k.frame h.own, fun b hb ho => h.own b hb (k.own b (Nat.lt_of_lt_of_le hb h.frame.size) ho)⟩

/-- From n on there are places for objects to come. -/
def Room (n : Nat) (E : List Slot) (hp : List Obj) : Prop := ∀ j, n ≤ j → j < hp.length → hp[j]? = some .dead ∧ E[j]? = some Slot.none

section
variable {P : Program} {T : Nat → TI} {X : Nat → Prop} {m : Nat}

/-- An operation whose value has been put into its slot. -/
theorem SR.after {w w' : World} {E : List Slot} {a : Act} {fr : List AV} {hp : List Obj} (h : SR w X m a E ⟨fr, hp⟩) {val : AV} {wr : List (Nat × Obj)} {v : Value} (ha : After w X m E hp val wr v w') (dst : Option Nat) (hd : ∀ d, dst = some d → d < fr.length)
    {c : AV} (hc : ∀ w S E, VR w S E val v → VR w S E c v) : ∃ E', SR w' X m (a.put dst v) E' ⟨setO fr dst c, updl hp wr⟩ ∧ Goes w E hp w' E' (updl hp wr) ∧ ∀ j, (∀ p ∈ wr, p.1 ≠ j) → E'[j]? = E[j]? := by
  obtain ⟨E', he, hr, hf, ho, hv, hj⟩ := ha
  refine ⟨E', ?_, ⟨he, hf, ho⟩, hj⟩
  have h1 : SR w' X m a E' ⟨fr, updl hp wr⟩ :=
    ⟨hr, h.len, fun t c' hc' => (h.tmp t c' hc').mono (hf.mono fun _ _ h => .inr h) (fun b hb hs => hs.imp id (ho b hb)) he, h.defers⟩
  have h2 := h1.put dst (hc _ _ _ hv)
  cases dst with
  | none => exact h2
  | some d => exact h2

theorem guardE_spec {dsts : List (Option Nat)} {ops : Array Oper} (hds : dsts = dstsOf ops.toList) {w : World} {E : List Slot} {a : Act} {fr : List AV} {hp : List Obj} (h : SR w X m a E ⟨fr, hp⟩) {gd : Option (Nat × Bool)} {K : Option Bool → Prop} (hg : guardE dsts fr gd K) {o : Oper} (hgd : o.guard = gd) :
    (gd = none ∧ K none ∧ Region.wanted o (yielded ops a.tmps) = true) ∨ ∃ b, gd ≠ none ∧ K (some b) ∧ Region.wanted o (yielded ops a.tmps) = b := by
  unfold guardE at hg
  split at hg
  · exact .inl ⟨rfl, hg, by simp [Region.wanted, hgd]⟩
  · rename_i j want
    refine .inr ?_
    split at hg
    · rename_i t ht
      have hy : ∀ v, a.tmps[t]? = some v → yielded ops a.tmps j = (match v with | .bool b => some b | _ => none) := by
        intro v hv
        have : (ops[j]?).bind (·.dst) = some t := by
          rw [hds] at ht
          simp only [dstsOf, List.getElem?_map, Option.map_eq_some_iff] at ht
          obtain ⟨o', h1, h2⟩ := ht
          simp only [Array.getElem?_toList] at h1
          simp [h1, h2]
        simp [yielded, this, hv]
        cases v <;> rfl
      have hlt : ∀ c, fr[t]? = some c → ∃ v, a.tmps[t]? = some v ∧ VR w (SX X E hp) E c v := by
        intro c hc
        have h1 : t < fr.length := (List.getElem?_eq_some_iff.1 hc).1
        have h2 : t < a.tmps.size := by rw [h.len]; exact h1
        refine ⟨a.tmps[t], by simp [h2], ?_⟩
        have := h.tmp t c hc
        simpa [Array.getD_eq_getD_getElem?, h2] using this
      split at hg
      · rename_i c hc
        obtain ⟨v, hv, hvr⟩ := hlt _ hc
        have e := hy v hv
        rw [bool_inv hvr] at e
        cases want <;> refine ⟨_, by simp, hg, ?_⟩ <;> simp only [Region.wanted, hgd, e] <;> cases c <;> rfl
      · rename_i b c hc
        obtain ⟨v, hv, hvr⟩ := hlt _ hc
        have e := hy v hv
        cases want <;> refine ⟨_, by simp, hg, ?_⟩ <;> simp only [Region.wanted, hgd, e]
        all_goals
          cases hvr with
          | when h1 h0 =>
            cases b with
            | true =>
              rw [bool_inv (h1 rfl)]
              cases c <;> rfl
            | false =>
              rw [h0 rfl]
              rfl
      · exact hg.elim
    · exact hg.elim

theorem finC_spec {g : Option Bool} {v : AV} {K : AV → Prop} (h : finC g v K) : ∃ c, K c ∧ (g = none → c = v) ∧ ∀ b, g = some b → ((∃ b' v', v = .when b' v' ∧ c = .when (b && b') v') ∨ c = .when b v) := by
  unfold finC at h
  split at h
  · exact ⟨_, h, fun _ => rfl, fun b hb => by cases hb⟩
  · split at h
    · exact ⟨_, h, fun hb => (by cases hb), fun b hb => by cases hb; exact .inl ⟨_, _, rfl, rfl⟩⟩
    · exact ⟨_, h, fun hb => (by cases hb), fun b hb => by cases hb; exact .inr rfl⟩

/-- One operation of a region, at whatever place in whatever order: its outcome is given. -/
theorem op_step (hT : TOk P T) {ops : Array Oper} {dsts : List (Option Nat)} (hds : dsts = dstsOf ops.toList) {i : Nat} {o : Oper} (ho : ops[i]? = some o) {w : World} {E : List Slot} {a : Act} {fr : List AV} {hp : List Obj} (hs : SR w X m a E ⟨fr, hp⟩) {n : Nat}
    (hph : news o.op ≠ 0 → n < hp.length → hp[n]? = some .dead ∧ E[n]? = some Slot.none) {K : AV → AV → List (Nat × Obj) → List Nat → Prop}
    (h : guardE dsts fr o.guard fun g => opEff P T g o.op (evalAV fr) hp n fun val wr rd => still g wr <| finC g val fun v => (∀ p ∈ wr, p.1 < hp.length) ∧ (∀ d, o.dst = some d → d < fr.length) ∧ K v val wr rd) :
    ∃ c val wr rd, K c val wr rd ∧ ∀ (next : Act → World → Prop) (Q : Exit → Act → World → Prop),
      (∀ a' w' E', SR w' X m a' E' ⟨setO fr o.dst c, updl hp wr⟩ → Goes w E hp w' E' (updl hp wr) → (∀ j, (∀ p ∈ wr, p.1 ≠ j) → E'[j]? = E[j]?) → next a' w') → wpOp P ops Q i next a w := by
  have hev : ∀ x, VR w (SX X E hp) E (evalAV fr x) (a.eval x) := evalAV_sound hs.len hs.tmp
  rcases guardE_spec hds hs h rfl with ⟨hg, hk, hw⟩ | ⟨b, hg, hk, hw⟩
  · obtain ⟨val, wr, rd, h1, h2⟩ := opEff_sound (g := none) hT (.inl rfl) hk hs.hr hev hph (fun val wr rd hk => by
      simp only [still, finC] at hk; exact hk.1)
    simp only [still, finC] at h1
    refine ⟨val, val, wr, rd, h1.2.2, fun next Q hn => ?_⟩
    simp only [wpOp, ho, hw, if_true]
    refine .inl (h2 next Q fun v w' ha => ?_)
    obtain ⟨E', g1, g2, g3⟩ := hs.after ha o.dst h1.2.1 (c := val) fun _ _ _ h => h
    exact hn _ _ E' g1 g2 g3
  · cases b with
    | true =>
      obtain ⟨val, wr, rd, h1, h2⟩ := opEff_sound (g := some true) hT (.inr rfl) hk hs.hr hev hph (fun val wr rd hk => by
        simp only [still] at hk
        split at hk
        · exact fun p hp => by cases hp
        · exact hk.elim)
      simp only [still] at h1
      split at h1
      · obtain ⟨c, ⟨_, hd, hkk⟩, _, hc⟩ := finC_spec h1
        refine ⟨c, val, [], rd, hkk, fun next Q hn => ?_⟩
        simp only [wpOp, ho, hw, if_true]
        refine .inl (h2 next Q fun v w' ha => ?_)
        obtain ⟨E', g1, g2, g3⟩ := hs.after ha o.dst hd (c := c) (fun w S E hv => by
          rcases hc true rfl with ⟨b', v', rfl, rfl⟩ | rfl
          · simpa using hv
          · exact .when (fun _ => hv) (fun h => by cases h))
        exact hn _ _ E' g1 g2 g3
      · exact h1.elim
    | false =>
      -- not wanted: the outcome is taken from the operation's computation alone
      obtain ⟨x, h1, _⟩ := opEff_loc (P := P) (T := T) (g := some false) o.op (evalAV fr) n hp (fun x => still (some false) x.wr <| finC (some false) x.val fun v => (∀ p ∈ x.wr, p.1 < hp.length) ∧ (∀ d, o.dst = some d → d < fr.length) ∧ K v x.val x.wr x.rd) hk
      obtain ⟨val, wr, rd⟩ := x
      simp only [still] at h1
      split at h1
      · obtain ⟨c, ⟨_, hd, hkk⟩, _, hc⟩ := finC_spec h1
        refine ⟨c, val, [], rd, hkk, fun next Q hn => ?_⟩
        simp only [wpOp, ho, hw, Bool.false_eq_true, if_false]
        have hu : VR w (SX X E hp) E c undef := by
          rcases hc false rfl with ⟨b', v', rfl, rfl⟩ | rfl
          · exact .when (fun h => by simp at h) (fun _ => rfl)
          · exact .when (fun h => by cases h) (fun _ => rfl)
        have hp' := hs.put o.dst hu
        refine hn _ _ E ?_ (Goes.refl _ _ _) (fun _ _ => rfl)
        cases hdst : o.dst with
        | none => rw [hdst] at hp'; exact hp'
        | some d => rw [hdst] at hp'; exact hp'
      · exact h1.elim

theorem setO_length (fr : List AV) (dst : Option Nat) (c : AV) : (setO fr dst c).length = fr.length := by
  cases dst <;> simp [setO]

/-- A region that does not draw. -/
theorem opsEff_sound (hT : TOk P T) {ops : Array Oper} {dsts : List (Option Nat)} (hds : dsts = dstsOf ops.toList) {Q : Exit → Act → World → Prop} :
    ∀ (os : List Oper) (k : Nat), ops.toList.drop k = os → ∀ {w : World} {E : List Slot} {a : Act} {fr : List AV} {hp : List Obj} {n : Nat}, SR w X m a E ⟨fr, hp⟩ → Room n E hp → ∀ {K : List AV → List Obj → List Eff → Prop}, opsEff P T dsts os fr hp n K →
      (∀ fr' hp' es, K fr' hp' es → ∀ a' w' E', SR w' X m a' E' ⟨fr', hp'⟩ → Goes w E hp w' E' hp' → Q .normal a' w') → wpOps P ops Q ((List.range ops.size).drop k) a w
  | [], k, hk, w, E, a, fr, hp, n, hs, hr, K, h, hq => by
    have hl : ops.size ≤ k := by
      have := congrArg List.length hk
      simp at this
      omega
    rw [List.drop_eq_nil_of_le (by simpa using hl)]
    exact hq fr hp [] h a w E hs (Goes.refl _ _ _)
  | o :: os, k, hk, w, E, a, fr, hp, n, hs, hr, K, h, hq => by
    have hlt : k < ops.size := by
      have := congrArg List.length hk
      simp at this
      omega
    have ho : ops[k]? = some o := by
      have : (ops.toList.drop k)[0]? = some o := by rw [hk]; rfl
      simpa using this
    have hos : ops.toList.drop (k + 1) = os := by
      have := congrArg List.tail hk
      simpa using this
    obtain ⟨c, val, wr, rd, ⟨hb, hk'⟩, hstep⟩ := op_step (K := fun v val wr rd => (∀ p ∈ wr, p.1 < n + news o.op) ∧
        opsEff P T dsts os (setO fr o.dst v) (updl hp wr) (n + news o.op) fun fr'' hp'' es => K fr'' hp'' (⟨val, wr, rd⟩ :: es)) hT hds ho hs (n := n) (fun _ => hr n (Nat.le_refl n)) (by
      refine guardE_mono h fun g h => opEff_mono h fun val wr rd h => still_mono h fun h => finC_mono h fun v h => ?_
      obtain ⟨hd, h⟩ := putO_spec h
      obtain ⟨hw, h⟩ := setsC_spec h
      exact ⟨fun p hp => (hw p hp).1, hd, fun p hp => (hw p hp).2, h⟩)
    have hrange : (List.range ops.size).drop k = k :: (List.range ops.size).drop (k + 1) := by
      rw [List.drop_eq_getElem_cons (by simpa using hlt)]
      simp
    rw [hrange, wpOps_cons]
    refine hstep _ Q fun a' w' E' hs' hg hE => ?_
    refine opsEff_sound hT hds os (k + 1) hos hs' (fun j hj hl => ?_) hk' fun fr' hp' es hk a'' w'' E'' hs'' hg' => hq fr' hp' _ hk a'' w'' E'' hs'' (hg.trans hg')
    rw [updl_length] at hl
    have hne : ∀ p ∈ wr, p.1 ≠ j := fun p hp => by have := hb p hp; omega
    obtain ⟨r1, r2⟩ := hr j (by omega) hl
    refine ⟨?_, by rw [hE j hne]; exact r2⟩
    rw [updl_other hp wr j hne]
    exact r1
end
end Go.Mir
