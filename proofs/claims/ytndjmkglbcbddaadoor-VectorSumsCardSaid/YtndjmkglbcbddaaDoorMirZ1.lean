/- An evaluator for code without symbols, for the kernel: operations. No condition. -/
import Derived.Test.YtndjmkglbcbddaaDoorMirX
set_option linter.unusedVariables false
namespace Go.Mir
universe u
noncomputable section

/-! ### What is reckoned at once -/
def forceN {α : Sort u} (n : Nat) (k : Nat → α) : α := match n with
  | 0 => k 0
  | m + 1 => k (Nat.succ m)
theorem forceN_eq {α : Sort u} (n : Nat) (k : Nat → α) : forceN n k = k n := by cases n <;> rfl
def forceI {α : Sort u} (n : Int) (k : Int → α) : α := match n with
  | .ofNat m => forceN m fun m => k (.ofNat m)
  | .negSucc m => forceN m fun m => k (.negSucc m)
theorem forceI_eq {α : Sort u} (n : Int) (k : Int → α) : forceI n k = k n := by cases n <;> (unfold forceI; exact forceN_eq _ (fun m => k _))
def forceS {α : Sort u} (l : List UInt8) (k : List UInt8 → α) : α := match l with
  | [] => k []
  | c :: cs => forceN c.toNat fun c => forceS cs fun cs => k (UInt8.ofNat c :: cs)
theorem forceS_eq {α : Sort u} : ∀ (l : List UInt8) (k : List UInt8 → α), forceS l k = k l
  | [], k => rfl
  | c :: cs, k => by
    rw [forceS, forceN_eq, forceS_eq cs]
    simp
def forceB {α : Sort u} (b : Bool) (k : Bool → α) : α := match b with
  | true => k true
  | false => k false
theorem forceB_eq {α : Sort u} (b : Bool) (k : Bool → α) : forceB b k = k b := by cases b <;> rfl

def nthL {β : Type u} (l : List β) : Nat → Option β :=
  List.rec (motive := fun _ => Nat → Option β) (fun _ => none) (fun c _ ih n => Nat.rec (motive := fun _ => Option β) (some c) (fun m _ => ih m) n) l
theorem nthL_eq {β : Type u} : ∀ (l : List β) (n : Nat), nthL l n = l[n]?
  | [], n => rfl
  | c :: cs, 0 => rfl
  | c :: cs, n + 1 => (nthL_eq cs n).trans rfl
def takeB {β : Type u} : List β → Nat → Option (List β)
  | l, 0 => some []
  | [], _ + 1 => some []
  | c :: cs, n + 1 => match takeB cs n with
    | some l => some (c :: l)
    | none => none
theorem takeB_eq {β : Type u} : ∀ (l : List β) (n : Nat), takeB l n = some (l.take n)
  | l, 0 => by cases l <;> rfl
  | [], n + 1 => rfl
  | c :: cs, n + 1 => by rw [takeB, takeB_eq cs n]; rfl
def dropB {β : Type u} : List β → Nat → List β
  | l, 0 => l
  | [], _ + 1 => []
  | _ :: cs, n + 1 => dropB cs n
theorem dropB_eq {β : Type u} : ∀ (l : List β) (n : Nat), dropB l n = l.drop n
  | l, 0 => by cases l <;> rfl
  | [], n + 1 => rfl
  | c :: cs, n + 1 => by rw [dropB, dropB_eq cs n]; rfl
def appB {β : Type u} (l r : List β) : Option (List β) :=
  List.rec (motive := fun _ => Option (List β)) (some r) (fun c _ ih => Option.rec (motive := fun _ => Option (List β)) none (fun l => some (c :: l)) ih) l
theorem appB_eq {β : Type u} : ∀ (l r : List β), appB l r = some (l ++ r)
  | [], r => rfl
  | c :: cs, r => by
    show Option.rec (motive := fun _ => Option (List β)) none (fun l => some (c :: l)) (appB cs r) = _
    rw [appB_eq cs r]
    rfl
def lenB {β : Type u} (l : List β) : Nat := List.rec (motive := fun _ => Nat) 0 (fun _ _ n => Nat.succ n) l
theorem lenB_eq {β : Type u} : ∀ l : List β, lenB l = l.length
  | [] => rfl
  | _ :: l => congrArg Nat.succ (lenB_eq l)

/-! ### Small words -/
def okB (g : Option Bool) (c : Bool) : Bool := match g with
  | none => c
  | some b => match b with
    | true => c
    | false => true
theorem okB_spec {g : Option Bool} {c : Bool} {p : Prop} (hc : c = true → p) (h : okB g c = true) : ob g p := by
  cases g with
  | none => exact hc h
  | some b => cases b with
    | true => exact fun _ => hc h
    | false => exact fun h => by cases h
theorem ob_of {g : Option Bool} {p : Prop} (h : p) : ob g p := by
  cases g with
  | none => exact h
  | some b => exact fun _ => h

def stripB (g : Option Bool) (v : AV) : Option AV := match v with
  | .when b v' => match okB g b with
    | true => some v'
    | false => none
  | v => some v
theorem stripB_spec {g : Option Bool} {v r : AV} {K : AV → Prop} (h : stripB g v = some r) (hk : K r) : strip g v K := by
  cases v <;> first
    | (cases h; exact hk)
    | (simp only [stripB] at h
       split at h
       · rename_i hb
         cases h
         exact ⟨okB_spec id hb, hk⟩
       · cases h)
def stripsB (g : Option Bool) : List AV → Option (List AV)
  | [] => some []
  | c :: cs => match stripB g c with
    | some c' => match stripsB g cs with
      | some cs' => some (c' :: cs')
      | none => none
    | none => none
theorem stripsB_spec {g : Option Bool} : ∀ {cs r : List AV} {K : List AV → Prop}, stripsB g cs = some r → K r → strips g cs K
  | [], r, K, h, hk => by cases h; exact hk
  | c :: cs, r, K, h, hk => by
    simp only [stripsB] at h
    split at h
    · rename_i h1
      split at h
      · rename_i h2
        cases h
        exact stripB_spec (K := fun c' => strips g cs fun cs' => K (c' :: cs')) h1 (stripsB_spec (K := fun cs' => K (_ :: cs')) h2 hk)
      · cases h
    · cases h
def cutB (l : List AV) : Nat → Option (List AV) :=
  List.rec (motive := fun _ => Nat → Option (List AV)) (fun n => Nat.rec (motive := fun _ => Option (List AV)) (some []) (fun _ _ => none) n)
    (fun c _ ih n => Nat.rec (motive := fun _ => Option (List AV)) (some []) (fun m _ => Option.rec (motive := fun _ => Option (List AV)) none (fun l => some (c :: l)) (ih m)) n) l
theorem cutB_spec : ∀ {l : List AV} {n : Nat} {r : List AV} {K : List AV → Prop}, cutB l n = some r → K r → cut l n K
  | l, 0, r, K, h, hk => by cases l <;> (cases h; exact hk)
  | [], n + 1, r, K, h, hk => by cases h
  | c :: cs, n + 1, r, K, h, hk => by
    change Option.rec (motive := fun _ => Option (List AV)) none (fun l => some (c :: l)) (cutB cs n) = some r at h
    cases h1 : cutB cs n with
    | none => rw [h1] at h; cases h
    | some l =>
      rw [h1] at h
      cases h
      exact cutB_spec (K := fun l => K (c :: l)) h1 hk
def skipB (l : List AV) : Nat → Option (List AV) :=
  List.rec (motive := fun _ => Nat → Option (List AV)) (fun n => Nat.rec (motive := fun _ => Option (List AV)) (some []) (fun _ _ => none) n)
    (fun c cs ih n => Nat.rec (motive := fun _ => Option (List AV)) (some (c :: cs)) (fun m _ => ih m) n) l
theorem skipB_spec : ∀ {l : List AV} {n : Nat} {r : List AV} {K : List AV → Prop}, skipB l n = some r → K r → skip l n K
  | l, 0, r, K, h, hk => by cases l <;> (cases h; exact hk)
  | [], n + 1, r, K, h, hk => by cases h
  | c :: cs, n + 1, r, K, h, hk => skipB_spec (l := cs) (n := n) (K := K) h hk
def copyB (l : List AV) : Option (List AV) :=
  List.rec (motive := fun _ => Option (List AV)) (some []) (fun c _ ih => Option.rec (motive := fun _ => Option (List AV)) none (fun l => some (c :: l)) ih) l
theorem copyB_eq : ∀ l : List AV, copyB l = some l
  | [] => rfl
  | c :: cs => by
    show Option.rec (motive := fun _ => Option (List AV)) none (fun l => some (c :: l)) (copyB cs) = _
    rw [copyB_eq cs]
theorem copyL_intro : ∀ {l : List AV} {K : List AV → Prop}, K l → copyL l K
  | [], K, h => h
  | c :: cs, K, h => copyL_intro (l := cs) (K := fun l => K (c :: l)) h
theorem copyB_spec {l r : List AV} {K : List AV → Prop} (h : copyB l = some r) (hk : K r) : copyL l K := by
  rw [copyB_eq] at h
  cases h
  exact copyL_intro hk
def spliceB : List AV → Nat → List AV → Option (List AV)
  | cs, 0, [] => some cs
  | [], 0, _ :: _ => none
  | [], _ + 1, _ => none
  | _ :: cs, 0, v :: vs => match spliceB cs 0 vs with
    | some l => some (v :: l)
    | none => none
  | c :: cs, n + 1, vs => match spliceB cs n vs with
    | some l => some (c :: l)
    | none => none
theorem spliceB_spec : ∀ {cs : List AV} {n : Nat} {vs r : List AV} {K : List AV → Prop}, spliceB cs n vs = some r → K r → splice cs n vs K
  | [], 0, [], r, K, h, hk => by cases h; exact hk
  | c :: cs, 0, [], r, K, h, hk => by cases h; exact hk
  | [], 0, _ :: _, r, K, h, hk => by cases h
  | [], n + 1, [], r, K, h, hk => by cases h
  | [], n + 1, _ :: _, r, K, h, hk => by cases h
  | c :: cs, 0, v :: vs, r, K, h, hk => by
    simp only [spliceB] at h
    split at h
    · rename_i h1
      cases h
      exact spliceB_spec (cs := cs) (n := 0) (vs := vs) (K := fun l => K (v :: l)) h1 hk
    · cases h
  | c :: cs, n + 1, [], r, K, h, hk => by
    simp only [spliceB] at h
    split at h
    · rename_i h1
      cases h
      exact spliceB_spec (cs := cs) (n := n) (vs := []) (K := fun l => K (c :: l)) h1 hk
    · cases h
  | c :: cs, n + 1, v :: vs, r, K, h, hk => by
    simp only [spliceB] at h
    split at h
    · rename_i h1
      cases h
      exact spliceB_spec (cs := cs) (n := n) (vs := v :: vs) (K := fun l => K (c :: l)) h1 hk
    · cases h
def flatB (t : TI) (v : AV) : Option (List AV) := match t.k.agg with
  | true => match v with
    | .agg cs => some cs
    | _ => none
  | false => match v.one with
    | true => some [v]
    | false => none
theorem flatB_spec {t : TI} {v : AV} {r : List AV} {K : List AV → Prop} (h : flatB t v = some r) (hk : K r) : flat t v K := by
  unfold flatB at h
  unfold flat
  split at h
  · rename_i ha
    simp only [ha]
    split at h
    · cases h; exact hk
    · cases h
  · rename_i ha
    simp only [ha]
    split at h
    · rename_i h1
      cases h
      exact headA_intro (K := fun v => v.one = true ∧ K [v]) ⟨h1, hk⟩
    · cases h
def wrapB (t : TI) (l : List AV) : Option AV := match t.k.agg with
  | true => some (.agg l)
  | false => match l with
    | [c] => some c
    | _ => none
theorem wrapB_spec {t : TI} {l : List AV} {r : AV} {K : AV → Prop} (h : wrapB t l = some r) (hk : K r) : wrapAV t l K := by
  unfold wrapB at h
  unfold wrapAV
  split at h
  · rename_i ha
    simp only [ha]
    cases h; exact hk
  · rename_i ha
    simp only [ha]
    split at h
    · cases h; exact hk
    · cases h
def knownB (t : TI) : Bool := match t.k with
  | .other => false
  | _ => true
theorem knownB_spec {t : TI} {p : Prop} (h : knownB t = true) (hp : p) : known t p := by
  unfold knownB at h
  unfold known
  split at h
  · cases h
  · split
    · rename_i h1 _ h2; exact absurd h2 h1
    · exact hp
/-- A value is cut off and written at its type. -/
def readB (t : TI) (l : List AV) : Option AV := match cutB l t.size with
  | some l' => wrapB t l'
  | none => none
theorem readB_spec {t : TI} {l : List AV} {r : AV} {K : AV → Prop} (h : readB t l = some r) (hk : K r) : cut l t.size fun l => wrapAV t l K := by
  unfold readB at h
  split at h
  · rename_i h1
    exact cutB_spec (K := fun l => wrapAV t l K) h1 (wrapB_spec h hk)
  · cases h

/-! ### Rows -/
def tabF (L : List (List AV)) (i : Nat) : List AV := match nthL L i with
  | some l => l
  | none => []
def rowOf (L : List (List AV)) (sz ver : Nat) : Obj := .row Nat (tabF L) sz 0 (List.range (lenB L)) ver
theorem rowOf_map (L : List (List AV)) : (List.range (lenB L)).map (tabF L) = L := by
  rw [lenB_eq]
  apply List.ext_getElem?
  intro i
  by_cases hi : i < L.length
  · rw [List.getElem?_map, List.getElem?_eq_getElem (by simpa using hi), List.getElem?_eq_getElem hi]
    simp [tabF, nthL_eq, hi]
  · rw [List.getElem?_eq_none (by simpa using hi), List.getElem?_eq_none (by simpa using hi)]
def rowsB {α : Type} (enc : α → List AV) : List α → Option (List (List AV))
  | [] => some []
  | x :: xs => match copyB (enc x) with
    | some l => match rowsB enc xs with
      | some ls => some (l :: ls)
      | none => none
    | none => none
theorem rowsB_eq {α : Type} (enc : α → List AV) : ∀ xs, rowsB enc xs = some (xs.map enc)
  | [] => rfl
  | x :: xs => by rw [rowsB, copyB_eq, rowsB_eq enc xs]; rfl
def setB {β : Type u} (l : List β) (n : Nat) (v : β) : Option (List β) :=
  List.rec (motive := fun _ => Nat → Option (List β)) (fun _ => none) (fun c cs ih n => Nat.rec (motive := fun _ => Option (List β)) (some (v :: cs)) (fun m _ => Option.rec (motive := fun _ => Option (List β)) none (fun l => some (c :: l)) (ih m)) n) l n
theorem setB_spec {β : Type u} : ∀ {l : List β} {n : Nat} {v : β} {r : List β}, setB l n v = some r → n < l.length ∧ r = l.set n v
  | [], n, v, r, h => by cases h
  | c :: cs, 0, v, r, h => by cases h; exact ⟨by simp, rfl⟩
  | c :: cs, n + 1, v, r, h => by
    change Option.rec (motive := fun _ => Option (List β)) none (fun l => some (c :: l)) (setB cs n v) = some r at h
    cases h1 : setB cs n v with
    | none => rw [h1] at h; cases h
    | some l =>
      rw [h1] at h
      cases h
      obtain ⟨h2, h3⟩ := setB_spec h1
      exact ⟨by simp; omega, by rw [h3]; rfl⟩
def closedB (vs : List AV) : Bool := AV.closed.closeds vs
def iltB (i : Int) (n : Nat) : Bool := match i with
  | .ofNat m => Nat.blt m n
  | .negSucc _ => false
theorem iltB_spec {i : Int} {n : Nat} (h : iltB i n = true) : 0 ≤ i ∧ i < n ∧ i.toNat < n := by
  unfold iltB at h
  split at h
  · have : ∀ m : Nat, Nat.blt m n = true → m < n := fun m h => Nat.le_of_ble_eq_true h
    have := this _ h
    simp
    omega
  · cases h

abbrev Res := Option (AV × List (Nat × Obj) × List Nat)
def pureB (v : AV) : Res := some (v, [], [])
def natB (i : Int) : Nat := match i with
  | .ofNat m => m
  | .negSucc _ => 0
theorem natB_eq (i : Int) : natB i = i.toNat := by cases i <;> rfl

section
variable (P : Program) (T : Nat → TI) (g : Option Bool)

def loadB (t : TI) (p : AV) (hp : List Obj) : Res := match p with
  | .fz cs => match readB t cs with
    | some v => pureB v
    | none => none
  | .loc j off => match nthL hp j with
    | some (.cells cs) => match skipB cs off with
      | some cs' => match readB t cs' with
        | some v => some (v, [], [j])
        | none => none
      | none => none
    | _ => none
  | .rloc j ver i off => match nthL hp j with
    | some (.row _ enc _ d xs ver') => match okB g (Nat.beq ver ver' && Nat.blt i (lenB xs)) with
      | true => match skipB (enc (xs.getD i d)) off with
        | some cs' => match readB t cs' with
          | some v => some (v, [], [j])
          | none => none
        | none => none
      | false => none
    | _ => none
  | _ => none
theorem beq_lt_spec {ver ver' i : Nat} {α : Type} {xs : List α} (h : (Nat.beq ver ver' && Nat.blt i (lenB xs)) = true) : ver = ver' ∧ i < xs.length := by
  simp only [Bool.and_eq_true] at h
  exact ⟨Nat.eq_of_beq_eq_true h.1, by have := Nat.le_of_ble_eq_true h.2; rwa [lenB_eq] at this⟩
variable {P T g}
theorem loadB_spec {t : TI} {p : AV} {hp : List Obj} {v : AV} {wr : List (Nat × Obj)} {rd : List Nat} {K : AV → List Nat → Prop} (h : loadB g t p hp = some (v, wr, rd)) (hk : K v rd) : wr = [] ∧ loadE t p hp g K := by
  unfold loadB at h
  unfold loadE
  split at h
  · split at h
    · rename_i h1
      cases h
      exact ⟨rfl, readB_spec (K := fun v => K v []) h1 hk⟩
    · cases h
  · rename_i j off
    split at h
    · rename_i cs hj
      split at h
      · rename_i h1
        split at h
        · rename_i h2
          cases h
          rw [nthL_eq] at hj
          refine ⟨rfl, ?_⟩
          simp only [hj]
          exact skipB_spec (K := fun cs' => cut cs' t.size fun l => wrapAV t l fun v => K v [j]) h1 (readB_spec (K := fun v => K v [j]) h2 hk)
        · cases h
      · cases h
    · cases h
  · rename_i j ver i off
    split at h
    · rename_i α enc sz d xs ver' hj
      split at h
      · rename_i h0
        split at h
        · rename_i h1
          split at h
          · rename_i h2
            cases h
            rw [nthL_eq] at hj
            refine ⟨rfl, ?_⟩
            simp only [hj]
            exact ⟨okB_spec beq_lt_spec h0, skipB_spec (K := fun cs' => cut cs' t.size fun l => wrapAV t l fun v => K v [j]) h1 (readB_spec (K := fun v => K v [j]) h2 hk)⟩
          · cases h
        · cases h
      · cases h
    · cases h
  · cases h

def storeB (t : TI) (p v : AV) (hp : List Obj) : Res := match flatB t v with
  | some vs => match ones vs && Nat.beq (lenB vs) t.size with
    | true => match p with
      | .loc j off => match nthL hp j with
        | some (.cells cs) => match spliceB cs off vs with
          | some cs' => some (.any, [(j, .cells cs')], [j])
          | none => none
        | _ => none
      | .rloc j ver i off => match nthL hp j with
        | some (.row _ enc s d xs ver') => match Nat.beq ver ver' && Nat.blt i (lenB xs) && closedB vs with
          | true => match spliceB (enc (xs.getD i d)) off vs with
            | some cs' => match rowsB enc xs with
              | some L => match setB L i cs' with
                | some L' => some (.any, [(j, rowOf L' s ver)], [j])
                | none => none
              | none => none
            | none => none
          | false => none
        | _ => none
      | _ => none
    | false => none
  | none => none
theorem storeB_spec {t : TI} {p v : AV} {hp : List Obj} {u : AV} {wr : List (Nat × Obj)} {rd : List Nat} {K : List (Nat × Obj) → List Nat → Prop} (h : storeB t p v hp = some (u, wr, rd)) (hk : K wr rd) : u = .any ∧ storeE t p v hp K := by
  unfold storeB at h
  split at h
  · rename_i vs hvs
    split at h
    · rename_i h0
      simp only [Bool.and_eq_true] at h0
      have h02 := Nat.eq_of_beq_eq_true h0.2
      rw [lenB_eq] at h02
      have key : ∀ {Q : Prop}, (u = .any ∧ Q) → (Q → storeE t p v hp K) → u = .any ∧ storeE t p v hp K := fun h h' => ⟨h.1, h' h.2⟩
      unfold storeE
      split at h
      · rename_i j off
        split at h
        · rename_i cs hj
          split at h
          · rename_i h1
            cases h
            rw [nthL_eq] at hj
            refine ⟨rfl, flatB_spec hvs ⟨h0.1, h02, ?_⟩⟩
            simp only [hj]
            exact spliceB_spec (K := fun cs' => K [(j, .cells cs')] [j]) h1 hk
          · cases h
        · cases h
      · rename_i j ver i off
        split at h
        · rename_i α enc s d xs ver' hj
          split at h
          · rename_i h3
            simp only [Bool.and_eq_true] at h3
            obtain ⟨⟨h31, h32⟩, h33⟩ := h3
            split at h
            · rename_i h1
              rw [rowsB_eq] at h
              simp only at h
              split at h
              · rename_i L' h4
                cases h
                rw [nthL_eq] at hj
                obtain ⟨h5, h6⟩ := setB_spec h4
                refine ⟨rfl, flatB_spec hvs ⟨h0.1, h02, ?_⟩⟩
                simp only [hj]
                refine ⟨beq_lt_spec (by simp only [h31, h32, Bool.and_self]), h33, spliceB_spec (K := fun cs' => ∃ (β : Type) (e' : β → List AV) (d' : β) (zs : List β), zs.map e' = (xs.map enc).set i cs' ∧ K [(j, .row β e' s d' zs ver)] [j]) h1 ?_⟩
                exact ⟨_, _, _, _, (rowOf_map _).trans h6, hk⟩
              · cases h
            · cases h
          · cases h
        · cases h
      · cases h
    · cases h
  · cases h
end
end
end Go.Mir
