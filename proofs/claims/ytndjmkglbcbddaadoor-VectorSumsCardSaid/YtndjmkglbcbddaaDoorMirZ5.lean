/- An evaluator for code without symbols, for the kernel: regions, code, calls. No condition. -/
import Derived.Test.YtndjmkglbcbddaaDoorMirZ4f
set_option linter.unusedVariables false
set_option maxRecDepth 10000
namespace Go.Mir
noncomputable section

theorem headW_intro {v : AV} {K : AV → Prop} (h : K v) : headW v K := by
  unfold headW
  refine headA_intro (K := fun v => match v with
    | .when b v => headA v fun v => K (.when b v)
    | v => K v) ?_
  split
  · exact headA_intro (K := fun v => K (.when _ v)) h
  · exact h
theorem headL_intro : ∀ {cs : List AV} {K : List AV → Prop}, K cs → headL cs K
  | [], K, h => h
  | c :: cs, K, h => headW_intro (K := fun c => headL cs fun cs => K (c :: cs)) (headL_intro (cs := cs) h)
theorem appA_intro : ∀ {l r : List AV} {K : List AV → Prop}, K (l ++ r) → appA l r K
  | [], r, K, h => h
  | x :: l, r, K, h => appA_intro (l := l) (K := fun r => K (x :: r)) h
theorem natS_intro {n : Nat} {K : Nat → Prop} (h : K (n + 1)) : natS n K := by cases n <;> exact h
theorem lenK_intro : ∀ {l : List Obj} {K : Nat → Prop}, K l.length → lenK l K
  | [], K, h => h
  | _ :: l, K, h => lenK_intro (l := l) (natS_intro h)
theorem deadC_intro : ∀ {n : Nat} {K : List Obj → Prop}, K (deads n) → deadC n K
  | 0, K, h => h
  | n + 1, K, h => deadC_intro (n := n) (K := fun r => K (.dead :: r)) h
theorem appD_intro : ∀ {l : List Obj} {n : Nat} {K : List Obj → Prop}, K (l ++ deads n) → appD l n K
  | [], n, K, h => deadC_intro h
  | x :: l, n, K, h => appD_intro (l := l) (K := fun r => K (x :: r)) h
theorem putC_intro : ∀ {fr : List AV} {d : Nat} {v : AV} {K : List AV → Prop}, d < fr.length → K (fr.set d v) → putC fr d v K
  | [], d, v, K, h, _ => absurd h (by simp)
  | c :: cs, 0, v, K, h, hk => hk
  | c :: cs, n + 1, v, K, h, hk => putC_intro (fr := cs) (K := fun l => K (c :: l)) (by simpa using h) hk
theorem setC_intro : ∀ {hp : List Obj} {j : Nat} {o : Obj} {K : List Obj → Prop}, j < hp.length → K (hp.set j o) → setC hp j o K
  | [], d, v, K, h, _ => absurd h (by simp)
  | c :: cs, 0, v, K, h, hk => hk
  | c :: cs, n + 1, v, K, h, hk => setC_intro (hp := cs) (K := fun l => K (c :: l)) (by simpa using h) hk

def evB (fr : Fr) : Operand → AV
  | .tmp t => match fr.get t with
    | some v => v
    | none => .any
  | x => evalAV [] x
theorem evB_eq {fr : Fr} (hw : fr.wf) : evB fr = evalAV fr.list := by
  funext x
  cases x with
  | tmp t =>
    simp only [evB, evalAV, Fr.get_eq fr hw, List.getD_eq_getElem?_getD]
    cases fr.list[t]? <;> rfl
  | _ => rfl
def guardB (dsts : List (Option Nat)) (fr : Fr) (gd : Option (Nat × Bool)) : Option (Option Bool) := match gd with
  | none => some none
  | some (j, want) => match nthL dsts j with
    | some (some t) => match fr.get t with
      | some (.bool c) => match want with
        | true => forceB c fun c => some (some c)
        | false => forceB (!c) fun c => some (some c)
      | some (.when b (.bool c)) => match want with
        | true => forceB (b && c) fun c => some (some c)
        | false => forceB (b && !c) fun c => some (some c)
      | _ => none
    | _ => none
theorem guardB_spec {dsts : List (Option Nat)} {fr : Fr} (hw : fr.wf) {gd : Option (Nat × Bool)} {r : Option Bool} {K : Option Bool → Prop} (h : guardB dsts fr gd = some r) (hk : K r) : guardE dsts fr.list gd K := by
  unfold guardB at h
  unfold guardE
  cases gd with
  | none => cases h; exact hk
  | some p =>
    obtain ⟨j, want⟩ := p
    simp only at h ⊢
    split at h
    · rename_i t ht
      rw [nthL_eq] at ht
      simp only [ht]
      split at h
      · rename_i c hc
        rw [Fr.get_eq fr hw] at hc
        simp only [hc]
        cases want <;> (simp only [forceB_eq] at h ⊢; cases h; exact hk)
      · rename_i b c hc
        rw [Fr.get_eq fr hw] at hc
        simp only [hc]
        cases want <;> (simp only [forceB_eq] at h ⊢; cases h; exact hk)
      · cases h
    · cases h
def putB (fr : Fr) (dst : Option Nat) (v : AV) : Option Fr := match dst with
  | none => some fr
  | some d => fr.set d v
theorem putB_spec {fr : Fr} (hw : fr.wf) {dst : Option Nat} {v : AV} {r : Fr} {K : List AV → Prop} (h : putB fr dst v = some r) (hk : r.wf → K r.list) : putO fr.list dst v K := by
  cases dst with
  | none => cases h; exact hk hw
  | some d =>
    obtain ⟨h0, h1, h2⟩ := Fr.set_spec h hw
    exact headW_intro (K := fun v => putC fr.list d v K) (putC_intro h1 (h2 ▸ hk h0))
def setsB (b : Nat) (hp : List Obj) : List (Nat × Obj) → Option (List Obj)
  | [] => some hp
  | (j, o) :: wr => match Nat.blt j b with
    | true => match setB hp j o with
      | some hp' => setsB b hp' wr
      | none => none
    | false => none
theorem setsB_spec {b : Nat} : ∀ {wr : List (Nat × Obj)} {hp r : List Obj} {K : List Obj → Prop}, setsB b hp wr = some r → K r → setsC b hp wr K
  | [], hp, r, K, h, hk => by cases h; exact hk
  | (j, o) :: wr, hp, r, K, h, hk => by
    simp only [setsB] at h
    simp only [setsC]
    split at h
    · rename_i hb
      simp only [hb]
      split at h
      · rename_i h1
        obtain ⟨h2, h3⟩ := setB_spec h1
        exact setC_intro h2 (h3 ▸ setsB_spec h hk)
      · cases h
    · cases h
def stillB (g : Option Bool) (wr : List (Nat × Obj)) : Bool := match g with
  | none => true
  | some _ => match wr with
    | [] => true
    | _ => false
theorem stillB_spec {g : Option Bool} {wr : List (Nat × Obj)} {p : Prop} (h : stillB g wr = true) (hp : p) : still g wr p := by
  cases g with
  | none => exact hp
  | some b => cases wr with
    | nil => exact hp
    | cons _ _ => cases h
def finB (g : Option Bool) (v : AV) : Option AV := match g with
  | none => some v
  | some b => match v with
    | .when b' v' => forceB (b && b') fun b => some (.when b v')
    | v => some (.when b v)
theorem finB_spec {g : Option Bool} {v r : AV} {K : AV → Prop} (h : finB g v = some r) (hk : K r) : finC g v K := by
  unfold finB at h
  unfold finC
  cases g with
  | none => cases h; exact hk
  | some b => cases v <;> first | (cases h; exact hk) | (simp only [forceB_eq] at h; cases h; exact hk)

section
variable {P : Program} {T : Nat → TI}
/-- What calls answer. -/
def CallSOk (P : Program) (callS : FuncId → List AV → List Obj → Option (AV × List Obj)) : Prop :=
  ∀ f as hp r hp', callS f as hp = some (r, hp') → ∀ K : AV → List Obj → Prop, K r hp' → CallS P f as hp K

def oneB (T : Nat → TI) (eqt : Nat → List AV → List AV → Option Bool) (call : FuncId → List AV → Option AV) (callS : FuncId → List AV → List Obj → Option (AV × List Obj)) (dsts : List (Option Nat)) (o : Oper) (fr : Fr) (hp : List Obj) : Option (Fr × List Obj) :=
  match calleeOf o with
  | some f => match stripB none (evB fr f) with
    | some (.fn (.func k) first captured) => match stripsB none (mapEv (evB fr) (argsOf o)) with
      | some as => match appB as captured with
        | some l => match appB first l with
          | some l => match callS k l hp with
            | some (v, hp') => match putB fr o.dst v with
              | some fr' => some (fr', hp')
              | none => none
            | none => none
          | none => none
        | none => none
      | none => none
    | _ => none
  | none => forceN (lenB hp) fun n => match appB hp (deads (news o.op)) with
    | some hp1 => match guardB dsts fr o.guard with
      | some g => match opB T eqt call g o.op (evB fr) hp1 n with
        | some (val, wr, rd) => match stillB g wr with
          | true => match finB g val with
            | some v => match putB fr o.dst v with
              | some fr' => match setsB (n + news o.op) hp1 wr with
                | some hp' => some (fr', hp')
                | none => none
              | none => none
            | none => none
          | false => none
        | none => none
      | none => none
    | none => none
theorem oneB_spec {eqt : Nat → List AV → List AV → Option Bool} (he : EqtOk P eqt) {call : FuncId → List AV → Option AV} (hc : CallOk P call) {callS : FuncId → List AV → List Obj → Option (AV × List Obj)} (hcs : CallSOk P callS) {dsts : List (Option Nat)} {o : Oper} {fr : Fr} (hw : fr.wf) {hp : List Obj} {r : Fr} {hp' : List Obj} {K : List AV → List Obj → Prop}
    (h : oneB T eqt call callS dsts o fr hp = some (r, hp')) (hk : r.wf → K r.list hp') : oneE P T dsts o fr.list hp K := by
  unfold oneB at h
  unfold oneE
  split at h
  · rename_i f hf
    simp only [hf]
    simp only [mapEv_eq, appB_eq, evB_eq hw] at h
    split at h
    · rename_i k first captured h1
      split at h
      · rename_i as h2
        split at h
        · rename_i v hp2 h3
          split at h
          · rename_i fr' h4
            cases h
            unfold callE
            refine stripB_spec h1 ?_
            exact headL_intro (stripsB_spec h2 (appA_intro (appA_intro (hcs _ _ _ _ _ h3 _ (putB_spec hw h4 hk)))))
          · cases h
        · cases h
      · cases h
    · cases h
  · rename_i hf
    simp only [hf]
    simp only [forceN_eq, lenB_eq, appB_eq, evB_eq hw] at h
    refine lenK_intro (appD_intro ?_)
    split at h
    · rename_i g hg
      refine guardB_spec hw hg ?_
      split at h
      · rename_i val wr rd h1
        refine opB_spec he hc h1 ?_
        split at h
        · rename_i h2
          refine stillB_spec h2 ?_
          split at h
          · rename_i v h3
            refine finB_spec h3 ?_
            split at h
            · rename_i fr' h4
              split at h
              · rename_i h5
                cases h
                exact putB_spec hw h4 fun hw' => setsB_spec h5 (hk hw')
              · cases h
            · cases h
          · cases h
        · cases h
      · cases h
    · cases h

def seqB (T : Nat → TI) (eqt : Nat → List AV → List AV → Option Bool) (call : FuncId → List AV → Option AV) (callS : FuncId → List AV → List Obj → Option (AV × List Obj)) (dsts : List (Option Nat)) : List Oper → Fr → List Obj → Option (Fr × List Obj)
  | [], fr, hp => some (fr, hp)
  | o :: os, fr, hp => match oneB T eqt call callS dsts o fr hp with
    | some (fr', hp') => seqB T eqt call callS dsts os fr' hp'
    | none => none
theorem seqB_spec {eqt : Nat → List AV → List AV → Option Bool} (he : EqtOk P eqt) {call : FuncId → List AV → Option AV} (hc : CallOk P call) {callS : FuncId → List AV → List Obj → Option (AV × List Obj)} (hcs : CallSOk P callS) {dsts : List (Option Nat)} :
    ∀ {os : List Oper} {fr : Fr} {hp : List Obj} {r : Fr} {hp' : List Obj} {K : List AV → List Obj → Prop}, fr.wf → seqB T eqt call callS dsts os fr hp = some (r, hp') → (r.wf → K r.list hp') → seqE P T dsts os fr.list hp K
  | [], fr, hp, r, hp', K, hw, h, hk => by cases h; exact hk hw
  | o :: os, fr, hp, r, hp', K, hw, h, hk => by
    simp only [seqB] at h
    split at h
    · rename_i h1
      exact oneB_spec he hc hcs hw h1 fun hw' => seqB_spec he hc hcs hw' h hk
    · cases h

def opsB (T : Nat → TI) (eqt : Nat → List AV → List AV → Option Bool) (call : FuncId → List AV → Option AV) (dsts : List (Option Nat)) : List Oper → Fr → List Obj → Nat → Option (Fr × List Obj × List Eff)
  | [], fr, hp, _ => some (fr, hp, [])
  | o :: os, fr, hp, n => match guardB dsts fr o.guard with
    | some g => match opB T eqt call g o.op (evB fr) hp n with
      | some (val, wr, rd) => match stillB g wr with
        | true => match finB g val with
          | some v => match putB fr o.dst v with
            | some fr' => match setsB (n + news o.op) hp wr with
              | some hp' => forceN (n + news o.op) fun n' => match opsB T eqt call dsts os fr' hp' n' with
                | some (fr2, hp2, es) => some (fr2, hp2, ⟨val, wr, rd⟩ :: es)
                | none => none
              | none => none
            | none => none
          | none => none
        | false => none
      | none => none
    | none => none
theorem opsB_spec {eqt : Nat → List AV → List AV → Option Bool} (he : EqtOk P eqt) {call : FuncId → List AV → Option AV} (hc : CallOk P call) {dsts : List (Option Nat)} :
    ∀ {os : List Oper} {fr : Fr} {hp : List Obj} {n : Nat} {r : Fr} {hp' : List Obj} {es : List Eff} {K : List AV → List Obj → List Eff → Prop}, fr.wf → opsB T eqt call dsts os fr hp n = some (r, hp', es) → (r.wf → K r.list hp' es) → opsEff P T dsts os fr.list hp n K
  | [], fr, hp, n, r, hp', es, K, hw, h, hk => by cases h; exact hk hw
  | o :: os, fr, hp, n, r, hp', es, K, hw, h, hk => by
    simp only [opsB, forceN_eq, evB_eq hw] at h
    split at h
    · rename_i g hg
      refine guardB_spec hw hg ?_
      split at h
      · rename_i val wr rd h1
        refine opB_spec he hc h1 ?_
        split at h
        · rename_i h2
          refine stillB_spec h2 ?_
          split at h
          · rename_i v h3
            refine finB_spec h3 ?_
            split at h
            · rename_i fr' h4
              split at h
              · rename_i h5
                split at h
                · rename_i h6
                  cases h
                  exact putB_spec hw h4 fun hw' => setsB_spec h5 (opsB_spec he hc hw' h6 hk)
                · cases h
              · cases h
            · cases h
          · cases h
        · cases h
      · cases h
    · cases h

def regionB (T : Nat → TI) (eqt : Nat → List AV → List AV → Option Bool) (call : FuncId → List AV → Option AV) (callS : FuncId → List AV → List Obj → Option (AV × List Obj)) (ops : List Oper) (draw : Bool) (fr : Fr) (hp : List Obj) : Option (Fr × List Obj) := match draw with
  | false => seqB T eqt call callS (dstsOf ops) ops fr hp
  | true => forceN (lenB hp) fun n => match appB hp (deads (newsOf ops)) with
    | some hp1 => match opsB T eqt call (dstsOf ops) ops fr hp1 n with
      | some (fr', hp', es) => match bernB ops (dstsOf ops) n es with
        | true => some (fr', hp')
        | false => none
      | none => none
    | none => none
theorem regionB_spec {eqt : Nat → List AV → List AV → Option Bool} (he : EqtOk P eqt) {call : FuncId → List AV → Option AV} (hc : CallOk P call) {callS : FuncId → List AV → List Obj → Option (AV × List Obj)} (hcs : CallSOk P callS) {ops : Array Oper} {draw : Bool} {fr : Fr} (hw : fr.wf) {hp : List Obj} {r : Fr} {hp' : List Obj} {K : St → Prop}
    (h : regionB T eqt call callS ops.toList draw fr hp = some (r, hp')) (hk : r.wf → K ⟨r.list, hp'⟩) : regionE P T ops draw ⟨fr.list, hp⟩ K := by
  cases draw with
  | false => exact seqB_spec (K := fun fr' hp' => K ⟨fr', hp'⟩) he hc hcs hw h hk
  | true =>
    simp only [regionB, forceN_eq, lenB_eq, appB_eq] at h
    simp only [regionE]
    refine lenK_intro (appD_intro ?_)
    split at h
    · rename_i h1
      split at h
      · rename_i h2
        cases h
        refine opsB_spec he hc hw h1 fun hw' => ?_
        simp only [bernB_spec h2]
        exact hk hw'
      · cases h
    · cases h

def iterB (step : Fr → List Obj → Option (Exit × Fr × List Obj)) : Nat → Fr → List Obj → Option (Exit × Fr × List Obj)
  | 0, _, _ => none
  | n + 1, fr, hp => match step fr hp with
    | some (.normal, fr', hp') => iterB step n fr' hp'
    | r => r
def codeB (T : Nat → TI) (eqt : Nat → List AV → List AV → Option Bool) (call : FuncId → List AV → Option AV) (callS : FuncId → List AV → List Obj → Option (AV × List Obj)) (rounds : Nat) : Code → Fr → List Obj → Option (Exit × Fr × List Obj)
  | .skip, fr, hp => some (.normal, fr, hp)
  | .label _, fr, hp => some (.normal, fr, hp)
  | .region _ ops draw, fr, hp => match regionB T eqt call callS ops.toList draw fr hp with
    | some (fr', hp') => some (.normal, fr', hp')
    | none => none
  | .seq x y, fr, hp => match codeB T eqt call callS rounds x fr hp with
    | some (.normal, fr', hp') => codeB T eqt call callS rounds y fr' hp'
    | r => r
  | .cond c x y, fr, hp => match evB fr c with
    | .bool b => match b with
      | true => codeB T eqt call callS rounds x fr hp
      | false => codeB T eqt call callS rounds y fr hp
    | _ => none
  | .block id body, fr, hp => match codeB T eqt call callS rounds body fr hp with
    | some (.exit id', fr', hp') => match Nat.beq id' id with
      | true => some (.normal, fr', hp')
      | false => some (.exit id', fr', hp')
    | r => r
  | .exit id, fr, hp => some (.exit id, fr, hp)
  | .ret, fr, hp => some (.ret, fr, hp)
  | .loop body, fr, hp => iterB (fun fr hp => codeB T eqt call callS rounds body fr hp) rounds fr hp
  | _, _, _ => none

theorem oneB_wf {eqt : Nat → List AV → List AV → Option Bool} {call : FuncId → List AV → Option AV} {callS : FuncId → List AV → List Obj → Option (AV × List Obj)} {dsts : List (Option Nat)} {o : Oper} {fr : Fr} (hw : fr.wf) {hp : List Obj} {r : Fr} {hp' : List Obj}
    (h : oneB T eqt call callS dsts o fr hp = some (r, hp')) : r.wf := by
  have put : ∀ {dst v r}, putB fr dst v = some r → r.wf := by
    intro dst v r h
    cases dst with
    | none => cases h; exact hw
    | some d => exact (Fr.set_spec h hw).1
  unfold oneB at h
  split at h
  · simp only [appB_eq] at h
    repeat' split at h
    all_goals first | (cases h; done) | skip
    rename_i h4
    cases h
    exact put h4
  · simp only [forceN_eq, appB_eq] at h
    repeat' split at h
    all_goals first | (cases h; done) | skip
    rename_i h4 _ _ h5
    cases h
    exact put h4
theorem seqB_wf {eqt : Nat → List AV → List AV → Option Bool} {call : FuncId → List AV → Option AV} {callS : FuncId → List AV → List Obj → Option (AV × List Obj)} {dsts : List (Option Nat)} : ∀ {os : List Oper} {fr : Fr} {hp : List Obj} {r : Fr} {hp' : List Obj}, fr.wf → seqB T eqt call callS dsts os fr hp = some (r, hp') → r.wf
  | [], fr, hp, r, hp', hw, h => by cases h; exact hw
  | o :: os, fr, hp, r, hp', hw, h => by
    simp only [seqB] at h
    split at h
    · rename_i h1
      exact seqB_wf (oneB_wf hw h1) h
    · cases h
theorem opsB_wf {eqt : Nat → List AV → List AV → Option Bool} {call : FuncId → List AV → Option AV} {dsts : List (Option Nat)} : ∀ {os : List Oper} {fr : Fr} {hp : List Obj} {n : Nat} {r : Fr} {hp' : List Obj} {es : List Eff}, fr.wf → opsB T eqt call dsts os fr hp n = some (r, hp', es) → r.wf
  | [], fr, hp, n, r, hp', es, hw, h => by cases h; exact hw
  | o :: os, fr, hp, n, r, hp', es, hw, h => by
    have put : ∀ {dst v r}, putB fr dst v = some r → r.wf := by
      intro dst v r h
      cases dst with
      | none => cases h; exact hw
      | some d => exact (Fr.set_spec h hw).1
    simp only [opsB, forceN_eq] at h
    repeat' split at h
    all_goals first | (cases h; done) | skip
    rename_i h4 _ _ _ _ _ _ _ h6
    cases h
    exact opsB_wf (put h4) h6
theorem regionB_wf {eqt : Nat → List AV → List AV → Option Bool} (he : EqtOk P eqt) {call : FuncId → List AV → Option AV} (hc : CallOk P call) {callS : FuncId → List AV → List Obj → Option (AV × List Obj)} (hcs : CallSOk P callS) {ops : Array Oper} {draw : Bool} {fr : Fr} (hw : fr.wf) {hp : List Obj} {r : Fr} {hp' : List Obj}
    (h : regionB T eqt call callS ops.toList draw fr hp = some (r, hp')) : r.wf := by
  cases draw with
  | false => exact seqB_wf hw h
  | true =>
    simp only [regionB, forceN_eq, appB_eq] at h
    repeat' split at h
    all_goals first | (cases h; done) | skip
    rename_i h1 _ _
    cases h
    exact opsB_wf hw h1

theorem codeB_spec (hT : TOk P T) (hm : P.follows .mixedOrders = true) {eqt : Nat → List AV → List AV → Option Bool} (he : EqtOk P eqt) {call : FuncId → List AV → Option AV} (hc : CallOk P call) {callS : FuncId → List AV → List Obj → Option (AV × List Obj)} (hcs : CallSOk P callS) {rounds m : Nat} :
    ∀ (c : Code) {fr : Fr} {hp : List Obj} {e : Exit} {fr' : Fr} {hp' : List Obj}, fr.wf → codeB T eqt call callS rounds c fr hp = some (e, fr', hp') → fr'.wf ∧ Run P m c (fun e2 st2 => e2 = e ∧ st2 = ⟨fr'.list, hp'⟩) ⟨fr.list, hp⟩
  | .skip, fr, hp, e, fr', hp', hw, h => by
    simp only [codeB] at h
    cases h
    exact ⟨hw, codeE_sound hT hm .skip (K := fun e2 st2 => e2 = .normal ∧ st2 = ⟨fr.list, hp⟩) ⟨rfl, rfl⟩⟩
  | .label l, fr, hp, e, fr', hp', hw, h => by
    simp only [codeB] at h
    cases h
    exact ⟨hw, codeE_sound hT hm (.label l) (K := fun e2 st2 => e2 = .normal ∧ st2 = ⟨fr.list, hp⟩) ⟨rfl, rfl⟩⟩
  | .region id ops draw, fr, hp, e, fr', hp', hw, h => by
    simp only [codeB] at h
    split at h
    · rename_i fr1 hp1 h1
      cases h
      have hw' : fr'.wf ∨ True := .inr trivial
      refine ⟨?_, codeE_sound hT hm (.region id ops draw) (regionB_spec (K := fun st2 => Exit.normal = Exit.normal ∧ st2 = ⟨fr'.list, hp'⟩) he hc hcs hw h1 fun _ => ⟨rfl, rfl⟩)⟩
      exact regionB_wf he hc hcs hw h1
    · cases h
  | .seq x y, fr, hp, e, fr', hp', hw, h => by
    simp only [codeB] at h
    split at h
    · rename_i fr1 hp1 h1
      obtain ⟨w1, r1⟩ := codeB_spec hT hm he hc hcs (m := m) x hw h1
      obtain ⟨w2, r2⟩ := codeB_spec hT hm he hc hcs (m := m) y w1 h
      refine ⟨w2, fun X mm w a E hs => wp_seq (wp_mono (r1 X mm w a E hs) fun e2 a' w' ⟨st', E', hk, hs', hg⟩ => ?_)⟩
      obtain ⟨rfl, rfl⟩ := hk
      exact wp_mono (r2 X mm w' a' E' hs') fun e2 a2 w2 ⟨st2, E2, k2, s2, g2⟩ => ⟨st2, E2, k2, s2, hg.trans g2⟩
    · rename_i hne
      obtain ⟨w1, r1⟩ := codeB_spec hT hm he hc hcs (m := m) x hw h
      refine ⟨w1, fun X mm w a E hs => wp_seq (wp_mono (r1 X mm w a E hs) fun e2 a' w' ⟨st', E', hk, hs', hg⟩ => ?_)⟩
      obtain ⟨rfl, rfl⟩ := hk
      cases e2 with
      | normal => exact absurd h (hne _ _)
      | exit id => exact ⟨_, E', ⟨rfl, rfl⟩, hs', hg⟩
      | goto l => exact ⟨_, E', ⟨rfl, rfl⟩, hs', hg⟩
      | ret => exact ⟨_, E', ⟨rfl, rfl⟩, hs', hg⟩
      | panic ch => exact ⟨_, E', ⟨rfl, rfl⟩, hs', hg⟩
      | outgrown => exact ⟨_, E', ⟨rfl, rfl⟩, hs', hg⟩
  | .cond c x y, fr, hp, e, fr', hp', hw, h => by
    simp only [codeB, evB_eq hw] at h
    split at h
    · rename_i b hb
      cases b with
      | true =>
        obtain ⟨w1, r1⟩ := codeB_spec hT hm he hc hcs (m := m) x hw h
        refine ⟨w1, fun X mm w a E hs => ?_⟩
        have hv := evalAV_sound hs.len hs.tmp c
        rw [hb] at hv
        exact wp_cond_split (bool_inv hv) (fun _ => r1 X mm w a E hs) (fun hb => by cases hb)
      | false =>
        obtain ⟨w1, r1⟩ := codeB_spec hT hm he hc hcs (m := m) y hw h
        refine ⟨w1, fun X mm w a E hs => ?_⟩
        have hv := evalAV_sound hs.len hs.tmp c
        rw [hb] at hv
        exact wp_cond_split (bool_inv hv) (fun hb => by cases hb) (fun _ => r1 X mm w a E hs)
    · cases h
  | .block id body, fr, hp, e, fr', hp', hw, h => by
    simp only [codeB] at h
    split at h
    · rename_i id' fr1 hp1 h1
      obtain ⟨w1, r1⟩ := codeB_spec hT hm he hc hcs (m := m) body hw h1
      have hw' : fr'.wf := by
        split at h
        · cases h; exact w1
        · cases h; exact w1
      refine ⟨hw', fun X mm w a E hs => wp_block (wp_mono (r1 X mm w a E hs) fun e2 a' w' ⟨st', E', hk, hs', hg⟩ => ?_)⟩
      obtain ⟨rfl, rfl⟩ := hk
      simp only [Exit.inBlock]
      split at h
      · rename_i hb
        cases h
        rw [if_pos (Nat.eq_of_beq_eq_true hb)]
        exact ⟨_, E', ⟨rfl, rfl⟩, hs', hg⟩
      · rename_i hb
        cases h
        rw [if_neg (Nat.ne_of_beq_eq_false hb)]
        exact ⟨_, E', ⟨rfl, rfl⟩, hs', hg⟩
    · rename_i hne
      obtain ⟨w1, r1⟩ := codeB_spec hT hm he hc hcs (m := m) body hw h
      refine ⟨w1, fun X mm w a E hs => wp_block (wp_mono (r1 X mm w a E hs) fun e2 a' w' ⟨st', E', hk, hs', hg⟩ => ?_)⟩
      obtain ⟨rfl, rfl⟩ := hk
      cases e2 with
      | exit id => exact absurd h (hne _ _ _)
      | normal => exact ⟨_, E', ⟨rfl, rfl⟩, hs', hg⟩
      | goto l => exact ⟨_, E', ⟨rfl, rfl⟩, hs', hg⟩
      | ret => exact ⟨_, E', ⟨rfl, rfl⟩, hs', hg⟩
      | panic ch => exact ⟨_, E', ⟨rfl, rfl⟩, hs', hg⟩
      | outgrown => exact ⟨_, E', ⟨rfl, rfl⟩, hs', hg⟩
  | .exit id, fr, hp, e, fr', hp', hw, h => by
    simp only [codeB] at h
    cases h
    exact ⟨hw, codeE_sound hT hm (.exit id) (K := fun e2 st2 => e2 = .exit id ∧ st2 = ⟨fr.list, hp⟩) ⟨rfl, rfl⟩⟩
  | .ret, fr, hp, e, fr', hp', hw, h => by
    simp only [codeB] at h
    cases h
    exact ⟨hw, codeE_sound hT hm .ret (K := fun e2 st2 => e2 = .ret ∧ st2 = ⟨fr.list, hp⟩) ⟨rfl, rfl⟩⟩
  | .loop body, fr, hp, e, fr', hp', hw, h => by
    simp only [codeB] at h
    have step := @codeB_spec hT hm eqt he call hc callS hcs rounds m body
    have key : ∀ (n : Nat) (fr1 : Fr) (hp1 : List Obj), fr1.wf → iterB (fun fr hp => codeB T eqt call callS rounds body fr hp) n fr1 hp1 = some (e, fr', hp') → fr'.wf := by
      intro n
      induction n with
      | zero => intro fr1 hp1 hw1 h1; cases h1
      | succ n ih =>
        intro fr1 hp1 hw1 h1
        simp only [iterB] at h1
        split at h1
        · rename_i fr2 hp2 h2
          exact ih fr2 hp2 (step hw1 h2).1 h1
        · exact (step hw1 h1).1
    refine ⟨key rounds fr hp hw h, Run.unroll rounds (fun n st => ∃ fr1 : Fr, fr1.wf ∧ st.fr = fr1.list ∧ iterB (fun fr hp => codeB T eqt call callS rounds body fr hp) n fr1 st.hp = some (e, fr', hp')) ⟨fr, hw, rfl, h⟩ fun n st hn => ?_⟩
    obtain ⟨fr1, hw1, hst, hn⟩ := hn
    obtain ⟨frl, hp1⟩ := st
    simp only at hst hn
    subst hst
    cases n with
    | zero => cases hn
    | succ n =>
      simp only [iterB] at hn
      split at hn
      · rename_i fr2 hp2 h2
        refine (step hw1 h2).2.mono fun e2 st2 ⟨h3, h4⟩ => ?_
        subst h3 h4
        exact ⟨n, Nat.lt_succ_self n, fr2, (step hw1 h2).1, rfl, hn⟩
      · rename_i hne
        refine (step hw1 hn).2.mono fun e2 st2 ⟨h3, h4⟩ => ?_
        subst h3 h4
        cases e2 with
        | normal => exact absurd hn (hne _ _)
        | exit id => exact ⟨rfl, rfl⟩
        | goto l => exact ⟨rfl, rfl⟩
        | ret => exact ⟨rfl, rfl⟩
        | panic ch => exact ⟨rfl, rfl⟩
        | outgrown => exact ⟨rfl, rfl⟩
  | .rangeFunc _ _ _ _, _, _, _, _, _, _, h => by cases h
  | .scope _, _, _, _, _, _, _, h => by cases h
  | .goto _, _, _, _, _, _, _, h => by cases h
  | .refuse _, _, _, _, _, _, _, h => by cases h
end
end
end Go.Mir
