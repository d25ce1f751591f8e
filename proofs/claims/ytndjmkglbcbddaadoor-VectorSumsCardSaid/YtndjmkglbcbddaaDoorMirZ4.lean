/- An evaluator for code without symbols, for the kernel: all operations. No condition. -/
import Derived.Test.YtndjmkglbcbddaaDoorMirZ3
set_option linter.unusedVariables false
set_option maxRecDepth 10000
namespace Go.Mir
noncomputable section

section
variable {P : Program} {T : Nat → TI} {g : Option Bool}
def partsB (ev : Operand → AV) (g : Option Bool) : List (Nat × Operand) → Option (List (Nat × AV))
  | [] => some []
  | (i, x) :: ps => match stripB g (ev x) with
    | some v => match partsB ev g ps with
      | some r => some ((i, v) :: r)
      | none => none
    | none => none
theorem partsB_spec {ev : Operand → AV} : ∀ {ps : List (Nat × Operand)} {r : List (Nat × AV)} {K : List (Nat × AV) → Prop}, partsB ev g ps = some r → K r → stripParts g (parts ev ps) K
  | [], r, K, h, hk => by cases h; exact hk
  | (i, x) :: ps, r, K, h, hk => by
    simp only [partsB] at h
    split at h
    · rename_i h1
      split at h
      · rename_i h2
        cases h
        exact stripB_spec (K := fun v' => stripParts g (parts ev ps) fun r => K ((i, v') :: r)) h1 (partsB_spec (K := fun r => K ((i, _) :: r)) h2 hk)
      · cases h
    · cases h
def buildB (T : Nat → TI) (place : Nat → Option (Nat × Nat)) : List AV → List (Nat × AV) → Option (List AV)
  | cs, [] => some cs
  | cs, (i, v) :: rest => match place i with
    | none => none
    | some (t, off) => match flatB (T t) v with
      | some vs => match Nat.beq (lenB vs) (T t).size with
        | true => match spliceB cs off vs with
          | some cs' => buildB T place cs' rest
          | none => none
        | false => none
      | none => none
theorem buildB_spec {place : Nat → Option (Nat × Nat)} : ∀ {rest : List (Nat × AV)} {cs r : List AV} {K : List AV → Prop}, buildB T place cs rest = some r → K r → buildE T place cs rest K
  | [], cs, r, K, h, hk => by cases h; exact hk
  | (i, v) :: rest, cs, r, K, h, hk => by
    simp only [buildB] at h
    simp only [buildE]
    split at h
    · cases h
    · rename_i t off hp
      simp only [hp]
      split at h
      · rename_i vs h1
        split at h
        · rename_i h2
          split at h
          · rename_i cs' h3
            rw [lenB_eq] at h2
            exact flatB_spec h1 ⟨Nat.eq_of_beq_eq_true h2, spliceB_spec (K := fun cs' => buildE T place cs' rest K) h3 (buildB_spec h hk)⟩
          · cases h
        · cases h
      · cases h
def partsKB (T : Nat → TI) (t : TI) : Bool := match t.k with
  | .struct fs => allKB fs
  | .array _ e => knownB (T e)
  | _ => false
where
  allKB : List (Nat × Nat) → Bool
  | [] => true
  | (t, _) :: fs => knownB (T t) && allKB fs
theorem allKB_spec : ∀ {fs : List (Nat × Nat)} {p : Prop}, partsKB.allKB T fs = true → p → allKnown T fs p
  | [], p, h, hp => hp
  | (t, _) :: fs, p, h, hp => by
    simp only [partsKB.allKB, Bool.and_eq_true] at h
    exact knownB_spec h.1 (allKB_spec h.2 hp)
theorem partsKB_spec {t : TI} {p : Prop} (h : partsKB T t = true) (hp : p) : partsKnown T t p := by
  unfold partsKB at h
  unfold partsKnown
  split at h
  · rename_i hk
    simp only [hk]
    exact allKB_spec h hp
  · rename_i hk
    simp only [hk]
    exact knownB_spec h hp
  · cases h
def groupsB (sz : Nat) : Nat → List AV → Option (List (List AV))
  | 0, _ => some []
  | n + 1, cs => match cutB cs sz with
    | some l => match skipB cs sz with
      | some cs' => match groupsB sz n cs' with
        | some ls => some (l :: ls)
        | none => none
      | none => none
    | none => none
theorem groupsB_spec {sz : Nat} : ∀ {n : Nat} {cs : List AV} {r : List (List AV)} {K : List (List AV) → Prop}, groupsB sz n cs = some r → K r → groups sz n cs K
  | 0, cs, r, K, h, hk => by cases h; exact hk
  | n + 1, cs, r, K, h, hk => by
    simp only [groupsB] at h
    split at h
    · rename_i h1
      split at h
      · rename_i h2
        split at h
        · rename_i h3
          cases h
          exact cutB_spec (K := fun l => skip cs sz fun cs' => groups sz n cs' fun ls => K (l :: ls)) h1 (skipB_spec (K := fun cs' => groups sz n cs' fun ls => K (_ :: ls)) h2 (groupsB_spec (K := fun ls => K (_ :: ls)) h3 hk))
        · cases h
      · cases h
    · cases h
def replB {β : Type 1} (x : β) : Nat → List β
  | 0 => []
  | n + 1 => x :: replB x n
theorem replB_eq {β : Type 1} (x : β) : ∀ n, replB x n = List.replicate n x
  | 0 => rfl
  | n + 1 => by rw [replB, replB_eq x n]; rfl
/-- What pure functions that are called answer. -/
def CallOk (P : Program) (call : FuncId → List AV → Option AV) : Prop := ∀ f as r, call f as = some r → Spec0 P f as r

def mapEv (ev : Operand → AV) : List Operand → List AV
  | [] => []
  | x :: xs => ev x :: mapEv ev xs
theorem mapEv_eq (ev : Operand → AV) : ∀ xs, mapEv ev xs = xs.map ev
  | [] => rfl
  | x :: xs => by rw [mapEv, mapEv_eq ev xs]; rfl

def callB (T : Nat → TI) (call : FuncId → List AV → Option AV) (g : Option Bool) (c : Call) (ev : Operand → AV) (hp : List Obj) (n : Nat) : Res := match c.callee with
  | .builtin b => match b with
    | .len => match c.args.toList with
      | [x] => match c.argTypes.toList with
        | [t] => match stripB g (ev x) with
          | some v => match lenOB (T t).k v hp g with
            | some (m, rd) => forceN m fun m => some (.int .i64 (.ofNat m), [], rd)
            | none => none
          | none => none
        | _ => none
      | _ => none
    | .append => match c.args.toList with
      | [s, x] => match c.argTypes.toList with
        | [t, t'] => match (T t).k with
          | .slice e => match knownB (T e) && Nat.beq t t' with
            | true => match stripB g (ev s) with
              | some s => match stripB g (ev x) with
                | some x => appendB (T e) s x hp n
                | none => none
              | none => none
            | false => none
          | _ => none
        | _ => none
      | _ => none
    | .min => match c.args.toList with
      | [x, y] => match stripB g (ev x) with
        | some (.int k a) => match stripB g (ev y) with
          | some (.int _ b) => some (.int k (bif leB a b then a else b), [], [])
          | _ => none
        | _ => none
      | _ => none
    | .max => match c.args.toList with
      | [x, y] => match stripB g (ev x) with
        | some (.int k a) => match stripB g (ev y) with
          | some (.int _ b) => some (.int k (bif leB b a then a else b), [], [])
          | _ => none
        | _ => none
      | _ => none
    | _ => none
  | .value f => match stripB g (ev f) with
    | some (.fn (.func k) first captured) => match stripsB g (mapEv ev c.args.toList) with
      | some as => match appB as captured with
        | some l => match appB first l with
          | some l => match closedB l with
            | true => match call k l with
              | some r => some (r, [], [])
              | none => none
            | false => none
          | none => none
        | none => none
      | none => none
    | _ => none
  | _ => none

def opB (T : Nat → TI) (eqt : Nat → List AV → List AV → Option Bool) (call : FuncId → List AV → Option AV) (g : Option Bool) (op : Op) (ev : Operand → AV) (hp : List Obj) (n : Nat) : Res := match op with
  | .move x => pureB (ev x)
  | .assign x => pureB (ev x)
  | .pick c a b => match pickB g (ev c) (ev a) (ev b) with
    | some v => pureB v
    | none => none
  | .alloc t => match knownB (T t) with
    | true => match copyB (T t).zero with
      | some z => some (.loc n 0, [(n, .cells z)], [])
      | none => none
    | false => none
  | .box t x => match knownB (T t) with
    | true => match stripB g (ev x) with
      | some v => match flatB (T t) v with
        | some cs => some (.loc n 0, [(n, .cells cs)], [])
        | none => none
      | none => none
    | false => none
  | .build t ps => match knownB (T t) && partsKB T (T t) with
    | true => match partsB ev g ps.toList with
      | some ps' => match copyB (T t).zero with
        | some z => match buildB T (placeOf T (T t)) z ps' with
          | some cs => pureB (.agg cs)
          | none => none
        | none => none
      | none => none
    | false => none
  | .buildSlice t len ps => match (T t).k with
    | .slice e => match knownB (T e) && okB g (Nat.ble (Nat.mul len (T e).size) 16777216 && Nat.ble len 16777216) with
      | true => match partsB ev g ps.toList with
        | some ps' => match copyB (repeatL (T e).zero len) with
          | some z => match buildB T (fun i => match decide (i < len) with | true => some (e, i * (T e).size) | false => none) z ps' with
            | some cs => match closedB cs with
              | true => match groupsB (T e).size len cs with
                | some L => some (.rowf n 0, [(n, rowOf L (T e).size 0)], [])
                | none => none
              | false => none
            | none => none
          | none => none
        | none => none
      | false => none
    | _ => none
  | .load t a => match knownB (T t) with
    | true => match stripB g (ev a) with
      | some p => loadB g (T t) p hp
      | none => none
    | false => none
  | .store t a x => match knownB (T t) with
    | true => match stripB g (ev a) with
      | some p => match stripB g (ev x) with
        | some v => storeB (T t) p v hp
        | none => none
      | none => none
    | false => none
  | .nilCheck x => match stripB g (ev x) with
    | some (.fz cs) => pureB (.fz cs)
    | some (.loc j o) => pureB (.loc j o)
    | some (.rloc j v i o) => pureB (.rloc j v i o)
    | _ => none
  | .binOp op t x y _ => match stripB g (ev x) with
    | some a => match stripB g (ev y) with
      | some b => match binB T eqt g op t a b with
        | some v => pureB v
        | none => none
      | none => none
    | none => none
  | .unOp op _ x => match stripB g (ev x) with
    | some a => match unB op a with
      | some v => pureB v
      | none => none
    | none => none
  | .convert src dst x => match knownB (T src) with
    | true => match stripB g (ev x) with
      | some a => convB T src dst a hp
      | none => none
    | false => none
  | .makeFunc fn first captured => match stripsB g (mapEv ev first.toList) with
    | some as => match stripsB g (mapEv ev captured.toList) with
      | some cs => pureB (.fn fn as cs)
      | none => none
    | none => none
  | .fieldAddr t x i => match stripB g (ev x) with
    | some p => match fieldOff (T t) i with
      | some (ft, off) => match knownB (T ft) && Nat.blt 0 (T ft).size with
        | true => match offB p off with
          | some q => pureB q
          | none => none
        | false => none
      | none => none
    | none => none
  | .field t x i => match stripB g (ev x) with
    | some (.agg cs) => match fieldOff (T t) i with
      | some (ft, off) => match skipB cs off with
        | some cs' => match knownB (T ft) with
          | true => match readB (T ft) cs' with
            | some v => pureB v
            | none => none
          | false => none
        | none => none
      | none => none
    | _ => none
  | .indexAddr t x i => match stripB g (ev x) with
    | some p => match stripB g (ev i) with
      | some (.int _ i) => indexAddrB T g t p i hp
      | _ => none
    | none => none
  | .index t x i => match stripB g (ev x) with
    | some p => match stripB g (ev i) with
      | some (.int _ i) => match indexB T g t p i with
        | some v => pureB v
        | none => none
      | _ => none
    | none => none
  | .slice t x lo hi mx => match stripB g (ev x) with
    | some p => sliceB T g t p lo hi mx ev hp
    | none => none
  | .makeSlice t l c => match (T t).k with
    | .slice e => match knownB (T e) with
      | true => match stripB g (ev l) with
        | some (.int _ l) => match stripB g (ev c) with
          | some (.int _ c) => match okB g (leB 0 l && leB l c && leB (c * (T e).bytes) 281474976710656 && leB c 9223372036854775807) && closedB (T e).zero with
            | true => match copyB (T e).zero with
              | some z => some (.rowf n 0, [(n, rowOf (replB z (natB l)) (T e).size 0)], [])
              | none => none
            | false => none
          | _ => none
        | _ => none
      | false => none
    | _ => none
  | .extract x i => match stripB g (ev x) with
    | some (.tup vs) => match nthL vs i with
      | some v => pureB v
      | none => none
    | _ => none
  | .call c => callB T call g c ev hp n
  | _ => none

theorem pureB_inv {v v' : AV} {wr : List (Nat × Obj)} {rd : List Nat} (h : pureB v = some (v', wr, rd)) : v' = v ∧ wr = [] ∧ rd = [] := by cases h; exact ⟨rfl, rfl, rfl⟩

theorem callB_spec {call : FuncId → List AV → Option AV} (hc : CallOk P call) {c : Call} {ev : Operand → AV} {hp : List Obj} {n : Nat} {v : AV} {wr : List (Nat × Obj)} {rd : List Nat} {K : AV → List (Nat × Obj) → List Nat → Prop} (h : callB T call g c ev hp n = some (v, wr, rd)) (hk : K v wr rd) : opEff P T g (.call c) ev hp n K := by
  obtain ⟨callee, args, argTypes⟩ := c
  unfold callB at h
  unfold opEff
  cases callee with
  | builtin b =>
    cases b with
    | append =>
      simp only at h ⊢
      split at h
      · rename_i s x ha
        simp only [ha]
        split at h
        · rename_i t t' ht
          simp only [ht]
          split at h
          · rename_i e hkt
            simp only [hkt]
            split at h
            · rename_i h0
              rw [Bool.and_eq_true] at h0
              split at h
              · rename_i s' hs
                split at h
                · rename_i x' hx
                  exact knownB_spec h0.1 ⟨h0.2, stripB_spec (K := fun s => strip g (ev x) fun x => appendE (T e) s x hp n g K) hs (stripB_spec (K := fun x => appendE (T e) s' x hp n g K) hx (appendB_spec h hk))⟩
                · cases h
              · cases h
            · cases h
          · cases h
        · cases h
      · cases h
    | len =>
      simp only at h ⊢
      split at h
      · rename_i x ha
        simp only [ha]
        split at h
        · rename_i t ht
          simp only [ht]
          split at h
          · rename_i v' hv
            split at h
            · rename_i m rd' hl
              rw [forceN_eq] at h
              cases h
              exact stripB_spec (K := fun v => lenE (T t).k v hp g fun m rd => K (.int .i64 m) [] rd) hv (lenOB_spec hl hk)
            · cases h
          · cases h
        · cases h
      · cases h
    | min =>
      simp only at h ⊢
      split at h
      · rename_i x y ha
        simp only [ha]
        split at h
        · rename_i k a hx
          split at h
          · rename_i k' b hy
            cases h
            refine stripB_spec (K := fun x => strip g (ev y) fun y => minE false x y fun v => K v [] []) hx (stripB_spec (K := fun y => minE false (.int k a) y fun v => K v [] []) hy ?_)
            show K (.int k (if b < a then b else a)) [] []
            have : (bif leB a b then a else b) = if b < a then b else a := by
              unfold leB
              by_cases hab : a ≤ b
              · rw [decide_eq_true hab, if_neg (by omega)]; rfl
              · rw [decide_eq_false hab, if_pos (by omega)]; rfl
            rw [← this]
            exact hk
          · cases h
        · cases h
      · cases h
    | max =>
      simp only at h ⊢
      split at h
      · rename_i x y ha
        simp only [ha]
        split at h
        · rename_i k a hx
          split at h
          · rename_i k' b hy
            cases h
            refine stripB_spec (K := fun x => strip g (ev y) fun y => minE true x y fun v => K v [] []) hx (stripB_spec (K := fun y => minE true (.int k a) y fun v => K v [] []) hy ?_)
            show K (.int k (if b > a then b else a)) [] []
            have : (bif leB b a then a else b) = if b > a then b else a := by
              unfold leB
              by_cases hab : b ≤ a
              · rw [decide_eq_true hab, if_neg (by omega)]; rfl
              · rw [decide_eq_false hab, if_pos (by omega)]; rfl
            rw [← this]
            exact hk
          · cases h
        · cases h
      · cases h
    | _ => cases h
  | value f =>
    simp only at h ⊢
    split at h
    · rename_i k first captured hf
      simp only [mapEv_eq, appB_eq] at h
      split at h
      · rename_i as ha
        split at h
        · rename_i h1
          split at h
          · rename_i r hr
            cases h
            refine stripB_spec (K := fun fv => match fv with
              | .fn (.func k) first captured => strips g (args.toList.map ev) fun as => closedAll (first ++ as ++ captured) ∧ ∃ r, ob g (Spec0 P k (first ++ as ++ captured) r) ∧ K r [] []
              | _ => False) hf (stripsB_spec (K := fun as => closedAll (first ++ as ++ captured) ∧ ∃ r, ob g (Spec0 P k (first ++ as ++ captured) r) ∧ K r [] []) ha ?_)
            rw [List.append_assoc]
            exact ⟨h1, v, ob_of (hc _ _ _ hr), hk⟩
          · cases h
        · cases h
      · cases h
    · cases h
  | invoke r nm => cases h

theorem okB_and {g : Option Bool} {a b : Bool} (h : okB g a = true) : okB g a = true := h
theorem opB_spec {eqt : Nat → List AV → List AV → Option Bool} (he : EqtOk P eqt) {call : FuncId → List AV → Option AV} (hc : CallOk P call) {op : Op} {ev : Operand → AV} {hp : List Obj} {n : Nat} {v : AV} {wr : List (Nat × Obj)} {rd : List Nat} {K : AV → List (Nat × Obj) → List Nat → Prop}
    (h : opB T eqt call g op ev hp n = some (v, wr, rd)) (hk : K v wr rd) : opEff P T g op ev hp n K := by
  cases op with
  | move x => obtain ⟨rfl, rfl, rfl⟩ := pureB_inv h; exact hk
  | assign x => obtain ⟨rfl, rfl, rfl⟩ := pureB_inv h; exact hk
  | pick c a b =>
    simp only [opB] at h
    split at h
    · rename_i h1
      obtain ⟨rfl, rfl, rfl⟩ := pureB_inv h
      exact pickB_spec (K := fun v => K v [] []) h1 hk
    · cases h
  | alloc t =>
    simp only [opB] at h
    split at h
    · rename_i h0
      rw [copyB_eq] at h
      cases h
      exact knownB_spec h0 (copyL_intro (K := fun z => K (.loc n 0) [(n, .cells z)] []) hk)
    · cases h
  | box t x =>
    simp only [opB] at h
    split at h
    · rename_i h0
      split at h
      · rename_i h1
        split at h
        · rename_i h2
          cases h
          exact knownB_spec h0 (stripB_spec (K := fun v => flat (T t) v fun cs => K (.loc n 0) [(n, .cells cs)] []) h1 (flatB_spec (K := fun cs => K (.loc n 0) [(n, .cells cs)] []) h2 hk))
        · cases h
      · cases h
    · cases h
  | build t ps =>
    simp only [opB] at h
    split at h
    · rename_i h0
      rw [Bool.and_eq_true] at h0
      split at h
      · rename_i ps' h1
        rw [copyB_eq] at h
        simp only at h
        split at h
        · rename_i h2
          obtain ⟨rfl, rfl, rfl⟩ := pureB_inv h
          exact knownB_spec h0.1 (partsKB_spec h0.2 (partsB_spec (K := fun ps' => copyL (T t).zero fun z => buildE T (placeOf T (T t)) z ps' fun cs => K (.agg cs) [] []) h1 (copyL_intro (K := fun z => buildE T (placeOf T (T t)) z ps' fun cs => K (.agg cs) [] []) (buildB_spec (K := fun cs => K (.agg cs) [] []) h2 hk))))
        · cases h
      · cases h
    · cases h
  | buildSlice t len ps =>
    simp only [opB] at h
    split at h
    · rename_i e hkt
      split at h
      · rename_i h0
        rw [Bool.and_eq_true] at h0
        split at h
        · rename_i ps' h1
          rw [copyB_eq] at h
          simp only at h
          split at h
          · rename_i cs h2
            split at h
            · rename_i h3
              split at h
              · rename_i L h4
                cases h
                unfold opEff
                simp only [hkt]
                refine knownB_spec h0.1 ⟨okB_spec (fun h => ?_) h0.2, partsB_spec h1 (buildB_spec h2 ⟨h3, groupsB_spec h4 ⟨_, _, _, _, rowOf_map L, hk⟩⟩)⟩
                rw [Bool.and_eq_true] at h
                exact ⟨Nat.le_of_ble_eq_true h.1, Nat.le_of_ble_eq_true h.2⟩
              · cases h
            · cases h
          · cases h
        · cases h
      · cases h
    · cases h
  | load t a =>
    simp only [opB] at h
    split at h
    · rename_i h0
      split at h
      · rename_i p h1
        obtain ⟨rfl, h2⟩ := loadB_spec (K := fun v rd => K v [] rd) h (by
          have : wr = [] := (loadB_spec (K := fun _ _ => True) h trivial).1
          subst this
          exact hk)
        exact knownB_spec h0 (stripB_spec (K := fun p => loadE (T t) p hp g fun v rd => K v [] rd) h1 h2)
      · cases h
    · cases h
  | store t a x =>
    simp only [opB] at h
    split at h
    · rename_i h0
      split at h
      · rename_i p h1
        split at h
        · rename_i u h2
          have e : v = .any := (storeB_spec (K := fun _ _ => True) h trivial).1
          subst e
          exact knownB_spec h0 (stripB_spec (K := fun p => strip g (ev x) fun v => storeE (T t) p v hp fun wr rd => K .any wr rd) h1 (stripB_spec (K := fun v => storeE (T t) p v hp fun wr rd => K .any wr rd) h2 (storeB_spec h hk).2))
        · cases h
      · cases h
    · cases h
  | nilCheck x =>
    simp only [opB] at h
    split at h
    all_goals first | (cases h; done) | skip
    all_goals
      rename_i h1
      obtain ⟨rfl, rfl, rfl⟩ := pureB_inv h
      exact stripB_spec (K := fun v => match v with
        | .fz cs => K (.fz cs) [] []
        | .loc j o => K (.loc j o) [] []
        | .rloc j v i o => K (.rloc j v i o) [] []
        | _ => False) h1 hk
  | binOp op t x y t' =>
    simp only [opB] at h
    split at h
    · rename_i a h1
      split at h
      · rename_i b h2
        split at h
        · rename_i h3
          obtain ⟨rfl, rfl, rfl⟩ := pureB_inv h
          exact stripB_spec (K := fun a => strip g (ev y) fun b => binE P T op t a b g fun v => K v [] []) h1 (stripB_spec (K := fun b => binE P T op t a b g fun v => K v [] []) h2 (binB_spec (K := fun v => K v [] []) he h3 hk))
        · cases h
      · cases h
    · cases h
  | unOp op t x =>
    simp only [opB] at h
    split at h
    · rename_i a h1
      split at h
      · rename_i h3
        obtain ⟨rfl, rfl, rfl⟩ := pureB_inv h
        exact stripB_spec (K := fun a => unE op a g fun v => K v [] []) h1 (unB_spec (K := fun v => K v [] []) h3 hk)
      · cases h
    · cases h
  | convert src dst x =>
    simp only [opB] at h
    split at h
    · rename_i h0
      split at h
      · rename_i a h1
        obtain ⟨rfl, h3⟩ := convB_spec (g := g) (K := fun v rd => K v [] rd) h (by
          have : wr = [] := (convB_spec (g := g) (K := fun _ _ => True) h trivial).1
          subst this
          exact hk)
        exact knownB_spec h0 (stripB_spec (K := fun a => convE T src dst a hp g fun v rd => K v [] rd) h1 h3)
      · cases h
    · cases h
  | makeFunc fn first captured =>
    simp only [opB, mapEv_eq] at h
    split at h
    · rename_i as h1
      split at h
      · rename_i cs h2
        obtain ⟨rfl, rfl, rfl⟩ := pureB_inv h
        exact stripsB_spec (K := fun as => strips g (captured.toList.map ev) fun cs => K (.fn fn as cs) [] []) h1 (stripsB_spec (K := fun cs => K (.fn fn as cs) [] []) h2 hk)
      · cases h
    · cases h
  | fieldAddr t x i =>
    simp only [opB] at h
    split at h
    · rename_i p h1
      split at h
      · rename_i ft off hf
        split at h
        · rename_i h0
          rw [Bool.and_eq_true] at h0
          split at h
          · rename_i q h2
            obtain ⟨rfl, rfl, rfl⟩ := pureB_inv h
            unfold opEff
            refine stripB_spec h1 ?_
            simp only [hf]
            refine knownB_spec h0.1 ?_
            have hz : 0 < (T ft).size := Nat.le_of_ble_eq_true h0.2
            split
            · omega
            · exact offB_spec (K := fun q => K q [] []) h2 hk
          · cases h
        · cases h
      · cases h
    · cases h
  | field t x i =>
    simp only [opB] at h
    split at h
    · rename_i cs h1
      split at h
      · rename_i ft off hf
        split at h
        · rename_i cs' h2
          split at h
          · rename_i h0
            split at h
            · rename_i h3
              obtain ⟨rfl, rfl, rfl⟩ := pureB_inv h
              unfold opEff
              refine stripB_spec h1 ?_
              simp only [hf]
              exact skipB_spec h2 (knownB_spec h0 (readB_spec (K := fun v => K v [] []) h3 hk))
            · cases h
          · cases h
        · cases h
      · cases h
    · cases h
  | indexAddr t x i =>
    simp only [opB] at h
    split at h
    · rename_i p h1
      split at h
      · rename_i k i' h2
        obtain ⟨rfl, h3⟩ := indexAddrB_spec (K := fun v rd => K v [] rd) h (by
          have : wr = [] := (indexAddrB_spec (K := fun _ _ => True) h trivial).1
          subst this
          exact hk)
        unfold opEff
        exact stripB_spec h1 (stripB_spec h2 h3)
      · cases h
    · cases h
  | index t x i =>
    simp only [opB] at h
    split at h
    · rename_i p h1
      split at h
      · rename_i k i' h2
        split at h
        · rename_i h3
          obtain ⟨rfl, rfl, rfl⟩ := pureB_inv h
          unfold opEff
          exact stripB_spec h1 (stripB_spec h2 (indexB_spec (K := fun v => K v [] []) h3 hk))
        · cases h
      · cases h
    · cases h
  | slice t x lo hi mx =>
    simp only [opB] at h
    split at h
    · rename_i p h1
      obtain ⟨rfl, h3⟩ := sliceB_spec (K := fun v rd => K v [] rd) h (by
        have : wr = [] := (sliceB_spec (K := fun _ _ => True) h trivial).1
        subst this
        exact hk)
      unfold opEff
      exact stripB_spec h1 h3
    · cases h
  | makeSlice t l c =>
    simp only [opB] at h
    split at h
    · rename_i e hkt
      split at h
      · rename_i h0
        split at h
        · rename_i k1 l' h1
          split at h
          · rename_i k2 c' h2
            split at h
            · rename_i h3
              rw [Bool.and_eq_true] at h3
              rw [copyB_eq] at h
              cases h
              unfold opEff
              simp only [hkt]
              refine knownB_spec h0 (stripB_spec h1 (stripB_spec h2 ⟨okB_spec (fun h => ?_) h3.1, h3.2, _, _, _, _, ?_, hk⟩))
              · simp only [Bool.and_eq_true, leB, decide_eq_true_eq] at h
                exact ⟨h.1.1.1, h.1.1.2, h.1.2, h.2⟩
              · rw [rowOf_map, replB_eq, natB_eq]
            · cases h
          · cases h
        · cases h
      · cases h
    · cases h
  | extract x i =>
    simp only [opB] at h
    split at h
    · rename_i vs h1
      split at h
      · rename_i u h2
        obtain ⟨rfl, rfl, rfl⟩ := pureB_inv h
        rw [nthL_eq] at h2
        unfold opEff
        refine stripB_spec h1 ?_
        simp only [h2]
        exact hk
      · cases h
    · cases h
  | call c => exact callB_spec hc h hk
  | _ => cases h
end
end
end Go.Mir
