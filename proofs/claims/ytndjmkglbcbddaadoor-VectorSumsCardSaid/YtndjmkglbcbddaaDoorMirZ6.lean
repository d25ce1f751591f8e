/- An evaluator for code without symbols, for the kernel: functions. No condition. -/
import Derived.Test.YtndjmkglbcbddaaDoorMirZ5
set_option linter.unusedVariables false
set_option maxRecDepth 10000
namespace Go.Mir
noncomputable section

section
variable {P : Program} {T : Nat → TI}
def resB (T : Nat → TI) (fr : Fr) (hp : List Obj) : List ResultVar → Option (List AV)
  | [] => some []
  | .tmp t :: rs => match fr.get t with
    | some v => match resB T fr hp rs with
      | some vs => some (v :: vs)
      | none => none
    | none => none
  | .cell a t :: rs => match fr.get a with
    | some (.loc j o) => match o with
      | 0 => match nthL hp j with
        | some (.cells cs) => match knownB (T t) with
          | true => match readB (T t) cs with
            | some v => match resB T fr hp rs with
              | some vs => some (v :: vs)
              | none => none
            | none => none
          | false => none
        | _ => none
      | _ + 1 => none
    | _ => none
theorem resB_spec {fr : Fr} (hw : fr.wf) {hp : List Obj} : ∀ {rs : List ResultVar} {r : List AV} {K : List AV → Prop}, resB T fr hp rs = some r → K r → resE T ⟨fr.list, hp⟩ rs K
  | [], r, K, h, hk => by cases h; exact hk
  | .tmp t :: rs, r, K, h, hk => by
    simp only [resB, Fr.get_eq fr hw] at h
    simp only [resE]
    split at h
    · rename_i v hv
      simp only [hv]
      split at h
      · rename_i h1
        cases h
        exact resB_spec hw (K := fun vs => K (v :: vs)) h1 hk
      · cases h
    · cases h
  | .cell a t :: rs, r, K, h, hk => by
    simp only [resB, nthL_eq, Fr.get_eq fr hw] at h
    simp only [resE]
    split at h
    · rename_i j o hv
      simp only [hv]
      split at h
      · split at h
        · rename_i cs hj
          simp only [hj]
          split at h
          · rename_i h0
            split at h
            · rename_i v h1
              split at h
              · rename_i h2
                cases h
                exact knownB_spec h0 (readB_spec (K := fun v => resE T ⟨fr.list, hp⟩ rs fun vs => K (v :: vs)) h1 (resB_spec hw (K := fun vs => K (v :: vs)) h2 hk))
              · cases h
            · cases h
          · cases h
        · cases h
      · cases h
    · cases h
def tupB (vs : List AV) : AV := match vs with
  | [v] => v
  | vs => .tup vs
theorem tupB_spec {vs : List AV} {K : AV → Prop} (h : K (tupB vs)) : tupE vs K := by
  unfold tupE
  unfold tupB at h
  split
  · exact h
  · split at h
    · rename_i hne; exact absurd rfl (hne _)
    · exact h
def endB (T : Nat → TI) (n : Nat) (rs : List ResultVar) (e : Exit) (fr : Fr) (hp : List Obj) : Option (AV × List Obj) := match (match e with | .normal => true | .ret => true | _ => false) with
  | true => match resB T fr hp rs with
    | some vs => match takeB hp n with
      | some hp1 => match AV.under n (tupB vs) && hpUnder n hp1 && Nat.ble n (lenB hp) with
        | true => some (tupB vs, hp1)
        | false => some (tupB vs, hp)
      | none => none
    | none => none
  | false => none
theorem endB_spec {n : Nat} {rs : List ResultVar} {e : Exit} {fr : Fr} (hw : fr.wf) {hp : List Obj} {v : AV} {hp' : List Obj} {K : AV → List Obj → Prop} (h : endB T n rs e fr hp = some (v, hp')) (hk : K v hp') : endE T n rs K e ⟨fr.list, hp⟩ := by
  unfold endB at h
  split at h
  · rename_i hb
    have key : (resE T ⟨fr.list, hp⟩ rs fun vs => tupE vs fun v => dropE n v hp K) → endE T n rs K e ⟨fr.list, hp⟩ := by
      intro h
      cases e <;> first | exact h | cases hb
    refine key ?_
    split at h
    · rename_i vs h1
      refine resB_spec hw h1 (tupB_spec ?_)
      rw [takeB_eq, lenB_eq] at h
      simp only at h
      unfold dropE
      split at h
      · rename_i h2
        cases h
        simp only [h2]
        exact hk
      · rename_i h2
        cases h
        simp only [h2]
        exact hk
    · cases h
  · cases h

/-- A call. 'sp': functions whose answer is known otherwise. -/
def funB (P : Program) (T : Nat → TI) (eqt : Nat → List AV → List AV → Option Bool) (sp : FuncId → List AV → List Obj → Option (AV × List Obj)) (rounds : Nat) : Nat → FuncId → List AV → List Obj → Option (AV × List Obj)
  | 0, _, _, _ => none
  | d + 1, f, as, hp => match sp f as hp with
    | some r => some r
    | none => match P.funcs[f]? with
      | some fn => match fn.name == "runtime.NumGoroutine" with
        | false => match fn.body with
          | some c => match startB fn.ntmps as with
            | some fr => match codeB T eqt (fun f as => match funB P T eqt sp rounds d f as [] with
                | some (r, _) => match AV.closed r with
                  | true => some r
                  | false => none
                | none => none) (fun f as hp => funB P T eqt sp rounds d f as hp) rounds c fr hp with
              | some (e, fr', hp') => endB T (lenB hp) fn.results.toList e fr' hp'
              | none => none
            | none => none
          | none => none
        | true => none
      | none => none
theorem appN_intro : ∀ {l : List AV} {n : Nat} {K : List AV → Prop}, K (l ++ anys n) → appN l n K
  | [], n, K, h => by
    have : ∀ {n : Nat} {K : List AV → Prop}, K (anys n) → anyC n K := by
      intro n
      induction n with
      | zero => intro K h; exact h
      | succ n ih => intro K h; exact ih (K := fun r => K (.any :: r)) h
    exact this h
  | x :: l, n, K, h => appN_intro (l := l) (K := fun r => K (x :: r)) h
theorem funB_spec (hT : TOk P T) (hm : P.follows .mixedOrders = true) {eqt : Nat → List AV → List AV → Option Bool} (he : EqtOk P eqt) {sp : FuncId → List AV → List Obj → Option (AV × List Obj)} (hsp : CallSOk P sp) {rounds : Nat} :
    ∀ d : Nat, CallSOk P (funB P T eqt sp rounds d)
  | 0 => fun f as hp r hp' h => by cases h
  | d + 1 => by
    have ih := funB_spec hT hm he hsp (rounds := rounds) d
    intro f as hp r hp' h K hk
    simp only [funB] at h
    split at h
    · rename_i h1
      cases h
      exact hsp _ _ _ _ _ h1 K hk
    · split at h
      · rename_i fn hf
        split at h
        · rename_i hn
          split at h
          · rename_i c hb
            split at h
            · rename_i fr hfr
              obtain ⟨w0, l0⟩ := startB_spec hfr
              rw [lenB_eq] at h
              split at h
              · rename_i e fr' hp2 h1
                have hcall : CallOk P (fun f as => match funB P T eqt sp rounds d f as [] with
                  | some (r, _) => match AV.closed r with
                    | true => some r
                    | false => none
                  | none => none) := by
                  intro f as r h
                  dsimp only at h
                  split at h
                  · rename_i r' hp3 h4
                    split at h
                    · rename_i h5
                      cases h
                      exact Spec0.of_call (ih _ _ _ _ _ h4 _ ⟨h5, VLe.refl _⟩)
                    · cases h
                  · cases h
                obtain ⟨w1, r1⟩ := codeB_spec hT hm he hcall ih (m := hp.length) c w0 h1
                refine CallS.of_code hT hf hb hn (appN_intro ?_)
                rw [← l0]
                refine r1.mono fun e2 st2 ⟨h2, h3⟩ => ?_
                subst h2 h3
                exact endB_spec w1 h hk
              · cases h
            · cases h
          · cases h
        · cases h
      · cases h
/-- The contract of a run without symbols. -/
theorem Spec0.run (hT : TOk P T) (hm : P.follows .mixedOrders = true) {eqt : Nat → List AV → List AV → Option Bool} (he : EqtOk P eqt) {sp : FuncId → List AV → List Obj → Option (AV × List Obj)} (hsp : CallSOk P sp) (rounds d : Nat) {f : FuncId} {as : List AV} {r : AV} (hc : AV.closed r = true)
    (h : (match funB P T eqt sp rounds d f as [] with | some (r, _) => some r | none => none) = some r) : Spec0 P f as r := by
  split at h
  · rename_i h1
    cases h
    exact Spec0.of_call (funB_spec hT hm he hsp d _ _ _ _ _ h1 _ ⟨hc, VLe.refl _⟩)
  · cases h
/-- The same, of a bool. -/
def asB (x : Option (AV × List Obj)) : Bool := match x with
  | some (.bool b, _) => b
  | _ => false
theorem Spec0.run_true (hT : TOk P T) (hm : P.follows .mixedOrders = true) {eqt : Nat → List AV → List AV → Option Bool} (he : EqtOk P eqt) {sp : FuncId → List AV → List Obj → Option (AV × List Obj)} (hsp : CallSOk P sp) (rounds d : Nat) {f : FuncId} {as : List AV}
    (h : asB (funB P T eqt sp rounds d f as []) = true) : Spec0 P f as (.bool true) := by
  unfold asB at h
  split at h
  · rename_i b hp h1
    subst h
    exact Spec0.of_call (funB_spec hT hm he hsp d _ _ _ _ _ h1 _ ⟨rfl, VLe.refl _⟩)
  · cases h
end
/-! ### To look at -/
def avBytes : AV → List UInt8
  | .str s => s.data.toList
  | _ => []
def avRows : AV → List (List AV)
  | .sl _ enc _ _ xs => xs.map enc
  | _ => []
def objRows : Obj → List (List AV)
  | .row _ enc _ _ xs _ => xs.map enc
  | _ => []
end
end Go.Mir
