/- Calls of Go functions, by what they do to the objects; regions that don't draw, with such calls. No condition. -/
import Derived.Test.YtndjmkglbcbddaaDoorMirR
set_option linter.unusedVariables false
namespace Go.Mir

/-- A call, from the objects hp, ends so. -/
def CallS (P : Program) (f : FuncId) (as : List AV) (hp : List Obj) (K : AV → List Obj → Prop) : Prop :=
  ∀ (X : Nat → Prop) (m : Nat) (w : World) (E : List Slot) (vs : List Value), HR w X m E hp → VRL w (SX X E hp) E as vs →
    Inv P f ⟨vs⟩ w fun v w' => ∃ r hp' E', K r hp' ∧ HR w' X m E' hp' ∧ Goes w E hp w' E' hp' ∧ VR w' (SX X E' hp') E' r v

theorem Inv.mono {P : Program} {f : FuncId} {args : Array Value} {w : World} {R R' : Value → World → Prop} (h : Inv P f args w R) (hr : ∀ v w, R v w → R' v w) : Inv P f args w R' := by
  rcases h with ⟨h1, h2⟩ | ⟨v, w', h1, h2⟩ | ⟨row, as, w', h1, h2⟩
  · exact .inl ⟨h1, h2.mono fun e w' ⟨v, e1, h⟩ => ⟨v, e1, hr _ _ h⟩⟩
  · exact .inr (.inl ⟨v, w', h1, hr _ _ h2⟩)
  · exact .inr (.inr ⟨row, as, w', h1, h2.mono fun v w' h => hr _ _ h⟩)
theorem CallS.mono {P : Program} {f : FuncId} {as : List AV} {hp : List Obj} {K K' : AV → List Obj → Prop} (h : CallS P f as hp K) (hk : ∀ v hp, K v hp → K' v hp) : CallS P f as hp K' :=
  fun X m w E vs hr hv => (h X m w E vs hr hv).mono fun v w' ⟨r, hp', E', k, rest⟩ => ⟨r, hp', E', hk _ _ k, rest⟩
theorem CallS.of_spec0 {P : Program} {f : FuncId} {as : List AV} {hp : List Obj} {K : AV → List Obj → Prop} {r : AV} (hc : AV.closed.closeds as = true) (h : Spec0 P f as r) (hk : K r hp) : CallS P f as hp K := by
  intro X m w E vs hr hv
  have hb : ∀ b, SX X E hp b → b < w.heap.size := fun b hb => hb.elim (hr.xlt b) (fun h => hr.own_lt h)
  have hall := hv.shut hc
  exact (h w (SX X E hp) vs hb hall.1 hall.2).mono fun v w' ⟨hf, hv⟩ => ⟨r, hp, E, hk, hr.grow hf, ⟨.refl _, hf.mono fun _ _ h => h.elim, fun _ _ h => h⟩, hv.open⟩

def appA : List AV → List AV → (List AV → Prop) → Prop
  | [], l, K => K l
  | h :: hs, l, K => appA hs l fun r => K (h :: r)
theorem appA_spec : ∀ {l r : List AV} {K : List AV → Prop}, appA l r K → K (l ++ r)
  | [], r, K, h => h
  | x :: l, r, K, h => appA_spec (l := l) h

/-- The arguments, with n slots behind them. -/
def anyC : Nat → (List AV → Prop) → Prop
  | 0, K => K []
  | n + 1, K => anyC n fun r => K (.any :: r)
def appN : List AV → Nat → (List AV → Prop) → Prop
  | [], n, K => anyC n K
  | h :: hs, n, K => appN hs n fun r => K (h :: r)
def anys : Nat → List AV
  | 0 => []
  | n + 1 => .any :: anys n
theorem anyC_spec : ∀ {n : Nat} {K : List AV → Prop}, anyC n K → K (anys n)
  | 0, K, h => h
  | n + 1, K, h => anyC_spec (n := n) h
theorem appN_spec : ∀ {l : List AV} {n : Nat} {K : List AV → Prop}, appN l n K → K (l ++ anys n)
  | [], n, K, h => anyC_spec h
  | x :: l, n, K, h => appN_spec (l := l) h

def headL : List AV → (List AV → Prop) → Prop
  | [], K => K []
  | c :: cs, K => headW c fun c => headL cs fun cs => K (c :: cs)
theorem headL_spec : ∀ {cs : List AV} {K : List AV → Prop}, headL cs K → K cs
  | [], K, h => h
  | c :: cs, K, h => headL_spec (cs := cs) (headW_spec (K := fun c => headL cs fun cs => K (c :: cs)) h)

def callE (P : Program) (f : AV) (as : List AV) (hp : List Obj) (K : AV → List Obj → Prop) : Prop :=
  strip none f fun fv => match fv with
    | .fn (.func k) first captured => headL as fun as => strips none as fun as => appA as captured fun l => appA first l fun l => CallS P k l hp K
    | _ => False

/-- Which operations are calls of function values. -/
def calleeOf (o : Oper) : Option Operand :=
  match o.guard with
  | none => match o.op with
    | .call c => match c.callee with
      | .value f => some f
      | _ => none
    | _ => none
  | _ => none
def argsOf (o : Oper) : List Operand :=
  match o.op with
  | .call c => c.args.toList
  | _ => []

/-- How many objects there are. -/
def natS (n : Nat) (K : Nat → Prop) : Prop :=
  match n with
  | 0 => K 1
  | m + 1 => K (m + 2)
def lenK : List Obj → (Nat → Prop) → Prop
  | [], K => K 0
  | _ :: l, K => lenK l fun n => natS n K
theorem lenK_spec : ∀ {l : List Obj} {K : Nat → Prop}, lenK l K → K l.length
  | [], K, h => h
  | _ :: l, K, h => by
    have := lenK_spec (l := l) h
    rw [List.length_cons]
    cases hl : l.length <;> rw [hl] at this <;> exact this

def oneE (P : Program) (T : Nat → TI) (dsts : List (Option Nat)) (o : Oper) (fr : List AV) (hp : List Obj) (K : List AV → List Obj → Prop) : Prop :=
  match calleeOf o with
  | some f => callE P (evalAV fr f) ((argsOf o).map (evalAV fr)) hp fun v hp' => putO fr o.dst v fun fr' => K fr' hp'
  | none => lenK hp fun n => appD hp (news o.op) fun hp1 => guardE dsts fr o.guard fun g => opEff P T g o.op (evalAV fr) hp1 n fun val wr rd =>
      still g wr <| finC g val fun v => putO fr o.dst v fun fr' => setsC (n + news o.op) hp1 wr fun hp' => K fr' hp'

/-- The operations one after the other; each makes its objects behind those that are. -/
def seqE (P : Program) (T : Nat → TI) (dsts : List (Option Nat)) : List Oper → List AV → List Obj → (List AV → List Obj → Prop) → Prop
  | [], fr, hp, K => K fr hp
  | o :: os, fr, hp, K => oneE P T dsts o fr hp fun fr' hp' => seqE P T dsts os fr' hp' K

section
variable {P : Program} {T : Nat → TI} {X : Nat → Prop} {m : Nat}

theorem HR.deads {w : World} {X : Nat → Prop} {m : Nat} : ∀ (n : Nat) {E : List Slot} {hp : List Obj}, HR w X m E hp → HR w X m (E ++ List.replicate n Slot.none) (hp ++ Go.Mir.deads n)
  | 0, E, hp, h => by simpa [Go.Mir.deads] using h
  | n + 1, E, hp, h => by
    have := HR.deads n h.app
    simpa [Go.Mir.deads, List.replicate_succ] using this
theorem own_deads : ∀ (n : Nat) {E : List Slot} {hp : List Obj}, E.length = hp.length → ∀ {b : Nat}, own (E ++ List.replicate n Slot.none) (hp ++ deads n) b ↔ own E hp b
  | 0, E, hp, h, b => by simp [deads]
  | n + 1, E, hp, h, b => by
    have := own_deads n (E := E ++ [Slot.none]) (hp := hp ++ [.dead]) (by simp [h]) (b := b)
    simp only [List.append_assoc, List.singleton_append] at this
    rw [List.replicate_succ, deads, this]
    exact own_app h
theorem SR.deads {w : World} {X : Nat → Prop} {m : Nat} {a : Act} {E : List Slot} {st : St} (h : SR w X m a E st) (n : Nat) : SR w X m a (E ++ List.replicate n Slot.none) ⟨st.fr, st.hp ++ Go.Mir.deads n⟩ ∧ Goes w E st.hp w (E ++ List.replicate n Slot.none) (st.hp ++ Go.Mir.deads n) ∧ Room st.hp.length (E ++ List.replicate n Slot.none) (st.hp ++ Go.Mir.deads n) := by
  have ho := fun b => own_deads n h.hr.len (b := b)
  refine ⟨⟨h.hr.deads n, h.len, fun t c hc => (h.tmp t c hc).mono (FrameW.refl _ _) (fun b _ hs => hs.imp id (ho b).1) (ExtE.app _ _), h.defers⟩, ⟨ExtE.app _ _, FrameW.refl _ _, fun b _ hb => (ho b).1 hb⟩, fun j hj hl => ?_⟩
  have hlen := h.hr.len
  rw [List.length_append, deads_length] at hl
  constructor
  · rw [List.getElem?_append_right hj]
    exact deads_at n _ (by omega)
  · rw [List.getElem?_append_right (by omega), List.getElem?_replicate, if_pos (by omega)]

theorem one_sound (hT : TOk P T) {ops : Array Oper} {dsts : List (Option Nat)} (hds : dsts = dstsOf ops.toList) {i : Nat} {o : Oper} (ho : ops[i]? = some o) {w : World} {E : List Slot} {a : Act} {fr : List AV} {hp : List Obj} (hs : SR w X m a E ⟨fr, hp⟩) {K : List AV → List Obj → Prop}
    (h : oneE P T dsts o fr hp K) {next : Act → World → Prop} {Q : Exit → Act → World → Prop} (hn : ∀ fr' hp' a' w' E', K fr' hp' → SR w' X m a' E' ⟨fr', hp'⟩ → Goes w E hp w' E' hp' → next a' w') : wpOp P ops Q i next a w := by
  unfold oneE at h
  split at h
  · rename_i f hf
    obtain ⟨hgd, c, hop, hcal⟩ : o.guard = none ∧ ∃ c, o.op = .call c ∧ c.callee = .value f := by
      unfold calleeOf at hf
      split at hf
      · rename_i hg
        split at hf
        · rename_i c hc
          split at hf
          · rename_i f' hf'
            cases hf
            exact ⟨hg, c, hc, hf'⟩
          · cases hf
        · cases hf
      · cases hf
    have hw : Region.wanted o (yielded ops a.tmps) = true := by simp [Region.wanted, hgd]
    have hev : ∀ x, VR w (SX X E hp) E (evalAV fr x) (a.eval x) := evalAV_sound hs.len hs.tmp
    simp only [argsOf, hop] at h
    unfold callE at h
    obtain ⟨fv, h, hfv⟩ := strip_spec (.inl rfl) h (hev f)
    split at h
    · rename_i k first captured
      obtain ⟨av, cv, e, hav, hcv⟩ := fn_inv hfv
      obtain ⟨as, h, has⟩ := strips_spec (.inl rfl) (headL_spec h) (args_rel hev c.args)
      have h := appA_spec (appA_spec h)
      have hall := hav.app (has.app hcv)
      have hi := h X m w E _ hs.hr hall
      simp only [wpOp, ho, hw, if_true]
      refine .inl (Does.inv (R := fun v w' => ∃ r hp' E', (putO fr o.dst r fun fr' => K fr' hp') ∧ HR w' X m E' hp' ∧ Goes w E hp w' E' hp' ∧ VR w' (SX X E' hp') E' r v) ?_ hi next Q fun v w' ⟨r, hp', E', hk, hr', hg, hv⟩ => ?_)
      · obtain ⟨od, oo, og⟩ := o
        simp only at hop
        subst hop
        obtain ⟨cc, ca, ct⟩ := c
        simp only at hcal
        subst hcal
        simp only [execOp, resolve, e, Deferred.ofValue, invoke]
        simp only [Sem.run_bind, Sem.run_pure, Result.andThen_ok]
        congr 2
        apply Array.ext'
        simp
      · obtain ⟨hd, hk⟩ := putO_spec hk
        have h1 : SR w' X m a E' ⟨fr, hp'⟩ := ⟨hr', hs.len, fun t c' hc' => (hs.tmp t c' hc').mono (hg.frame.mono fun _ _ h => .inr h) (fun b hb hs => hs.imp id (hg.own b hb)) hg.ext, hs.defers⟩
        have h2 := h1.put o.dst hv
        refine hn _ _ _ _ E' hk ?_ hg
        cases hdst : o.dst with
        | none => rw [hdst] at h2; exact h2
        | some d => rw [hdst] at h2; exact h2
    · exact h.elim
  · have h := appD_spec (lenK_spec h)
    obtain ⟨hs', hg0, hroom⟩ := hs.deads (news o.op)
    obtain ⟨c, val, wr, rd, hk', hstep⟩ := op_step (K := fun v val wr rd => K (setO fr o.dst v) (updl (hp ++ deads (news o.op)) wr)) hT hds ho hs' (n := hp.length) (fun _ => hroom hp.length (Nat.le_refl _)) (by
      refine guardE_mono h fun g h => opEff_mono h fun val wr rd h => still_mono h fun h => finC_mono h fun v h => ?_
      obtain ⟨hd, h⟩ := putO_spec h
      obtain ⟨hw, h⟩ := setsC_spec h
      exact ⟨fun p hp => (hw p hp).1, hd, h⟩)
    exact hstep _ Q fun a' w' E' hs2 hg hE => hn _ _ a' w' E' hk' hs2 (hg0.trans hg)

theorem seq_sound (hT : TOk P T) {ops : Array Oper} {dsts : List (Option Nat)} (hds : dsts = dstsOf ops.toList) {Q : Exit → Act → World → Prop} :
    ∀ (os : List Oper) (k : Nat), ops.toList.drop k = os → ∀ {w : World} {E : List Slot} {a : Act} {fr : List AV} {hp : List Obj}, SR w X m a E ⟨fr, hp⟩ → ∀ {K : List AV → List Obj → Prop}, seqE P T dsts os fr hp K →
      (∀ fr' hp', K fr' hp' → ∀ a' w' E', SR w' X m a' E' ⟨fr', hp'⟩ → Goes w E hp w' E' hp' → Q .normal a' w') → wpOps P ops Q ((List.range ops.size).drop k) a w
  | [], k, hk, w, E, a, fr, hp, hs, K, h, hq => by
    have hl : ops.size ≤ k := by
      have := congrArg List.length hk
      simp at this
      omega
    rw [List.drop_eq_nil_of_le (by simpa using hl)]
    exact hq fr hp h a w E hs (Goes.refl _ _ _)
  | o :: os, k, hk, w, E, a, fr, hp, hs, K, h, hq => by
    have hlt : k < ops.size := by
      have := congrArg List.length hk
      simp at this
      omega
    have ho : ops[k]? = some o := by
      have : (ops.toList.drop k)[0]? = some o := by rw [hk]; rfl
      simpa using this
    have hos : ops.toList.drop (k + 1) = os := by
      have := congrArg List.tail hk
      simpa using this
    have hrange : (List.range ops.size).drop k = k :: (List.range ops.size).drop (k + 1) := by
      rw [List.drop_eq_getElem_cons (by simpa using hlt)]
      simp
    rw [hrange, wpOps_cons]
    exact one_sound hT hds ho hs h fun fr' hp' a' w' E' hk hs' hg => seq_sound hT hds os (k + 1) hos hs' hk fun fr2 hp2 hk2 a2 w2 E2 hs2 hg2 => hq fr2 hp2 hk2 a2 w2 E2 hs2 (hg.trans hg2)
end
end Go.Mir
