/- An evaluator for code without symbols, for the kernel: slices, calls, all operations. No condition. -/
import Derived.Test.YtndjmkglbcbddaaDoorMirZ2
set_option linter.unusedVariables false
set_option maxRecDepth 10000
namespace Go.Mir
noncomputable section

section
variable {P : Program} {T : Nat → TI} {g : Option Bool}

def lenOB (k : TK) (x : AV) (hp : List Obj) (g : Option Bool) : Option (Nat × List Nat) := match k with
  | .str => match x with
    | .str s => some (lenB s.data.toList, [])
    | _ => none
  | .slice _ => match x with
    | .sl _ _ _ _ xs => some (lenB xs, [])
    | .nils => some (0, [])
    | .rowf j ver => match nthL hp j with
      | some (.row _ _ _ _ xs ver') => match okB g (Nat.beq ver ver') with
        | true => some (lenB xs, [j])
        | false => none
      | _ => none
    | _ => none
  | .array n _ => some (n, [])
  | .map _ _ => match x with
    | .mp j => match nthL hp j with
      | some (.map _ _ _ _ es) => some (lenB es, [j])
      | _ => none
    | .fmap _ _ _ _ es => some (lenB es, [])
    | .nilm => some (0, [])
    | _ => none
  | _ => none
theorem lenOB_spec {k : TK} {x : AV} {hp : List Obj} {n : Nat} {rd : List Nat} {K : Int → List Nat → Prop} (h : lenOB k x hp g = some (n, rd)) (hk : K n rd) : lenE k x hp g K := by
  cases k <;> first | (cases h; done) | skip
  · cases x <;> first | (cases h; done) | skip
    simp only [lenOB, lenB_eq] at h
    cases h
    exact hk
  · cases x <;> first | (cases h; done) | skip
    · cases h; exact hk
    · simp only [lenOB, lenB_eq] at h
      cases h
      exact hk
    · rename_i j ver
      simp only [lenOB] at h
      simp only [lenE]
      split at h
      · rename_i hj
        rw [nthL_eq] at hj
        split at h
        · rename_i h1
          rw [lenB_eq] at h
          cases h
          simp only [hj]
          exact ⟨okB_spec Nat.eq_of_beq_eq_true h1, hk⟩
        · cases h
      · cases h
  · cases h; exact hk
  · cases x <;> first | (cases h; done) | skip
    · cases h; exact hk
    · simp only [lenOB, lenB_eq] at h
      cases h
      exact hk
    · rename_i j
      simp only [lenOB] at h
      simp only [lenE]
      split at h
      · rename_i hj
        rw [nthL_eq] at hj
        rw [lenB_eq] at h
        cases h
        simp only [hj]
        exact hk
      · cases h

def numsB : List AV → Option (List Int)
  | [] => some []
  | c :: cs => match c with
    | .int .u8 n => match numsB cs with
      | some ns => some (n :: ns)
      | none => none
    | _ => none
theorem numsB_spec : ∀ {l : List AV} {r : List Int} {K : List Int → Prop}, numsB l = some r → K r → numsE l K
  | [], r, K, h, hk => by cases h; exact hk
  | c :: cs, r, K, h, hk => by
    cases c with
    | int k n =>
      cases k <;> first | (cases h; done) | skip
      simp only [numsB] at h
      split at h
      · rename_i h1
        cases h
        exact numsB_spec (l := cs) (K := fun ns => K (n :: ns)) h1 hk
      · cases h
    | _ => cases h
def byteSlB (T : Nat → TI) (src : Nat) : Bool := match (T src).k with
  | .slice e => match (T e).k with
    | .int .u8 => true
    | _ => false
  | _ => false
theorem byteSlB_spec {src : Nat} {p : Prop} (h : byteSlB T src = true) (hp : p) : byteSl T src p := by
  unfold byteSlB at h
  unfold byteSl
  split at h
  · rename_i e he
    simp only [he]
    split at h
    · rename_i he2
      simp only [he2]
      exact hp
    · cases h
  · cases h
def bytesOf : List Int → List UInt8
  | [] => []
  | n :: ns => UInt8.ofNat (natB n) :: bytesOf ns
theorem bytesOf_eq : ∀ ns : List Int, mkS (bytesOf ns) = strOfNums ns := by
  have : ∀ ns : List Int, bytesOf ns = ns.map fun n => UInt8.ofNat n.toNat := by
    intro ns
    induction ns with
    | nil => rfl
    | cons n ns ih => rw [bytesOf, ih, natB_eq]; rfl
  intro ns
  rw [this]
  rfl
def oneByte : List (List AV) → Option (List Int)
  | [] => some []
  | l :: ls => match l with
    | [.int .u8 n] => match oneByte ls with
      | some ns => some (n :: ns)
      | none => none
    | _ => none
theorem oneByte_spec : ∀ {ls : List (List AV)} {ns : List Int}, oneByte ls = some ns → ls = ns.map (fun n => [AV.int .u8 n])
  | [], ns, h => by cases h; rfl
  | l :: ls, ns, h => by
    simp only [oneByte] at h
    split at h
    · split at h
      · rename_i h1
        cases h
        rw [oneByte_spec h1]
        rfl
      · cases h
    · cases h
def convB (T : Nat → TI) (src dst : Nat) (x : AV) (hp : List Obj) : Res := match (T dst).k with
  | .int k => match x with
    | .int _ n => match mkI k (k.wrap n) with
      | some v => pureB v
      | none => none
    | _ => none
  | .str => match x with
    | .str s => pureB (.str s)
    | .nils => match byteSlB T src with
      | true => pureB (.str ⟨#[]⟩)
      | false => none
    | .csl j off n _ => match byteSlB T src with
      | true => match nthL hp j with
        | some (.cells cs) => match skipB cs off with
          | some cs' => match cutB cs' n with
            | some l => match numsB l with
              | some ns => match mkStr (bytesOf ns) with
                | some v => some (v, [], [j])
                | none => none
              | none => none
            | none => none
          | none => none
        | _ => none
      | false => none
    | .sl _ enc sz _ xs => match byteSlB T src && Nat.beq sz 1 with
      | true => match rowsB enc xs with
        | some L => match oneByte L with
          | some ns => match mkStr (bytesOf ns) with
            | some v => pureB v
            | none => none
          | none => none
        | none => none
      | false => none
    | .rowf j ver => match byteSlB T src with
      | true => match nthL hp j with
        | some (.row _ enc sz _ xs ver') => match Nat.beq ver ver' && Nat.beq sz 1 with
          | true => match rowsB enc xs with
            | some L => match oneByte L with
              | some ns => match mkStr (bytesOf ns) with
                | some v => some (v, [], [j])
                | none => none
              | none => none
            | none => none
          | false => none
        | _ => none
      | false => none
    | _ => none
  | _ => none
theorem convB_spec {src dst : Nat} {x : AV} {hp : List Obj} {v : AV} {wr : List (Nat × Obj)} {rd : List Nat} {K : AV → List Nat → Prop} (h : convB T src dst x hp = some (v, wr, rd)) (hk : K v rd) : wr = [] ∧ convE T src dst x hp g K := by
  unfold convB at h
  unfold convE
  split at h
  · rename_i hd
    simp only [hd]
    cases x <;> first | (cases h; done) | skip
    simp only [mkI_eq] at h
    cases h
    exact ⟨rfl, _, ob_of rfl, hk⟩
  · rename_i hd
    simp only [hd]
    cases x <;> first | (cases h; done) | skip
    · cases h
      exact ⟨rfl, hk⟩
    · simp only at h ⊢
      split at h
      · rename_i h0
        cases h
        exact ⟨rfl, byteSlB_spec h0 hk⟩
      · cases h
    · simp only [mkStr_eq, rowsB_eq] at h ⊢
      split at h
      · rename_i h0
        rw [Bool.and_eq_true] at h0
        split at h
        · rename_i ns h1
          cases h
          rw [bytesOf_eq] at hk
          exact ⟨rfl, byteSlB_spec h0.1 ⟨h0.2, ns, oneByte_spec h1, hk⟩⟩
        · cases h
      · cases h
    · rename_i j ver
      simp only [mkStr_eq, rowsB_eq] at h ⊢
      split at h
      · rename_i h0
        split at h
        · rename_i α enc sz d xs ver' hj
          rw [nthL_eq] at hj
          simp only [hj]
          split at h
          · rename_i h2
            rw [Bool.and_eq_true] at h2
            split at h
            · rename_i ns h1
              cases h
              rw [bytesOf_eq] at hk
              exact ⟨rfl, byteSlB_spec h0 ⟨ob_of (Nat.eq_of_beq_eq_true h2.1), h2.2, ns, oneByte_spec h1, hk⟩⟩
            · cases h
          · cases h
        · cases h
      · cases h
    · rename_i j off n cap
      simp only [mkStr_eq] at h ⊢
      split at h
      · rename_i h0
        split at h
        · rename_i cs hj
          rw [nthL_eq] at hj
          simp only [hj]
          split at h
          · rename_i cs' h1
            split at h
            · rename_i l h2
              split at h
              · rename_i ns h3
                cases h
                rw [bytesOf_eq] at hk
                exact ⟨rfl, byteSlB_spec h0 (skipB_spec h1 (cutB_spec h2 (numsB_spec h3 hk)))⟩
              · cases h
            · cases h
          · cases h
        · cases h
      · cases h
  · cases h

def unB (op : UnOp) (x : AV) : Option AV := match op with
  | .not => match x with
    | .bool b => mkB (!b)
    | _ => none
  | .neg => match x with
    | .int k n => mkI k (k.wrap (0 - n))
    | _ => none
  | _ => none
theorem unB_spec {op : UnOp} {x r : AV} {K : AV → Prop} (h : unB op x = some r) (hk : K r) : unE op x g K := by
  cases op <;> first | (cases h; done) | skip
  all_goals
    cases x <;> first | (cases h; done) | skip
    simp only [unB, mkI_eq, mkB_eq] at h
    cases h
    first | exact hk | exact ⟨_, ob_of rfl, hk⟩

def contB (ti : TI) (x : AV) (hp : List Obj) : Option Cont := match x with
  | .sl α enc sz _ xs => some ⟨α, enc, sz, xs, []⟩
  | .nils => some ⟨ti.α, ti.enc, ti.size, [], []⟩
  | .rowf j ver => match nthL hp j with
    | some (.row α enc sz _ xs ver') => match Nat.beq ver ver' with
      | true => some ⟨α, enc, sz, xs, [j]⟩
      | false => none
    | _ => none
  | _ => none
theorem contB_spec {ti : TI} {x : AV} {hp : List Obj} {c : Cont} {K : Cont → Prop} (h : contB ti x hp = some c) (hk : K c) : contE ti x hp g K := by
  cases x <;> first | (cases h; done) | skip
  · cases h; exact hk
  · cases h; exact hk
  · rename_i j ver
    simp only [contB] at h
    simp only [contE]
    split at h
    · rename_i hj
      rw [nthL_eq] at hj
      split at h
      · rename_i h1
        cases h
        simp only [hj]
        exact ⟨ob_of (Nat.eq_of_beq_eq_true h1), hk⟩
      · cases h
    · cases h

def onesAll : List (List AV) → Bool
  | [] => true
  | l :: ls => ones l && onesAll ls
theorem onesAll_spec : ∀ {ls : List (List AV)}, onesAll ls = true → ∀ l ∈ ls, ones l = true
  | [], h, l, hl => by cases hl
  | x :: ls, h, l, hl => by
    simp only [onesAll, Bool.and_eq_true] at h
    rcases List.mem_cons.1 hl with rfl | hl
    · exact h.1
    · exact onesAll_spec h.2 l hl
/-- What is laid behind a row: the rows. -/
def joinB (ti : TI) (sz n0 : Nat) (c : Cont) : Option (List (List AV)) := match Nat.beq sz ti.size && Nat.beq c.sz sz && Nat.blt 0 sz with
  | true => match rowsB c.enc c.ys with
    | some L => match onesAll L && Nat.ble (Nat.add n0 (lenB L)) 9223372036854775807 && Nat.ble (Nat.mul (Nat.add n0 (lenB L)) ti.bytes) 140737488355328 with
      | true => some L
      | false => none
    | none => none
  | false => none
theorem joinB_spec {ti : TI} {sz n0 : Nat} {c : Cont} {L : List (List AV)} (h : joinB ti sz n0 c = some L) : joinOk ti sz n0 c ∧ L = c.ys.map c.enc := by
  unfold joinB at h
  split at h
  · rename_i h1
    rw [rowsB_eq] at h
    simp only at h
    split at h
    · rename_i h2
      cases h
      simp only [Bool.and_eq_true] at h2
      obtain ⟨⟨h3, h4⟩, h5⟩ := h2
      have h4 := Nat.le_of_ble_eq_true h4
      have h5 := Nat.le_of_ble_eq_true h5
      rw [lenB_eq, List.length_map] at h4 h5
      exact ⟨⟨h1, fun y hy => onesAll_spec h3 _ (List.mem_map.2 ⟨y, hy, rfl⟩), h4, h5⟩, rfl⟩
    · cases h
  · cases h
def appendB (ti : TI) (s x : AV) (hp : List Obj) (n : Nat) : Res := match contB ti x hp with
  | some c => match s with
    | .nils => match joinB ti ti.size 0 c with
      | some L => some (.rowf n 1, [(n, rowOf L ti.size 1)], c.rd)
      | none => none
    | .rowf j ver => match nthL hp j with
      | some (.row _ enc sz _ xs ver') => match Nat.beq ver ver' with
        | true => match joinB ti sz (lenB xs) c with
          | some L => match rowsB enc xs with
            | some L0 => match appB L0 L with
              | some L1 => forceN (Nat.succ ver) fun v1 => some (.rowf j v1, [(j, rowOf L1 sz v1), (n, .dead)], j :: c.rd)
              | none => none
            | none => none
          | none => none
        | false => none
      | _ => none
    | _ => none
  | none => none
theorem appendB_spec {ti : TI} {s x : AV} {hp : List Obj} {n : Nat} {v : AV} {wr : List (Nat × Obj)} {rd : List Nat} {K : AV → List (Nat × Obj) → List Nat → Prop} (h : appendB ti s x hp n = some (v, wr, rd)) (hk : K v wr rd) : appendE ti s x hp n g K := by
  unfold appendB at h
  unfold appendE
  split at h
  · rename_i c hc
    refine contB_spec hc ?_
    cases s <;> first | (cases h; done) | skip
    · simp only at h ⊢
      split at h
      · rename_i L hL
        cases h
        obtain ⟨h1, h2⟩ := joinB_spec hL
        exact ⟨h1, _, _, _, _, (rowOf_map L).trans h2, hk⟩
      · cases h
    · rename_i j ver
      simp only at h ⊢
      split at h
      · rename_i α enc sz d xs ver' hj
        rw [nthL_eq] at hj
        simp only [hj]
        split at h
        · rename_i hv
          split at h
          · rename_i L hL
            obtain ⟨h1, h2⟩ := joinB_spec hL
            rw [rowsB_eq] at h
            simp only [appB_eq, forceN_eq] at h
            cases h
            rw [lenB_eq] at h1
            refine ⟨Nat.eq_of_beq_eq_true hv, h1, _, _, _, _, ?_, hk⟩
            rw [rowOf_map, h2]
          · cases h
        · cases h
      · cases h
  · cases h

def optB (ev : Operand → AV) (g : Option Bool) (dflt : Int) (x : Option Operand) : Option Int := match x with
  | none => some dflt
  | some x => match stripB g (ev x) with
    | some (.int _ n) => some n
    | _ => none
theorem optB_spec {ev : Operand → AV} {d : Int} {x : Option Operand} {r : Int} {K : Int → Prop} (h : optB ev g d x = some r) (hk : K r) : optE ev g d x K := by
  unfold optB at h
  unfold optE
  split at h
  · cases h; exact hk
  · split at h
    · rename_i h1
      cases h
      exact stripB_spec (K := fun v => match v with
        | .int _ n => K n
        | _ => False) h1 hk
    · cases h

def leB (a b : Int) : Bool := decide (a ≤ b)
def sliceB (T : Nat → TI) (g : Option Bool) (t : Nat) (x : AV) (lo hi mx : Option Operand) (ev : Operand → AV) (hp : List Obj) : Res := match (T t).k with
  | .str => match x with
    | .str s => match mx with
      | none => match optB ev g 0 lo with
        | some l => match optB ev g (.ofNat (lenB s.data.toList)) hi with
          | some h => match okB g (leB 0 l && leB l h && leB h (.ofNat (lenB s.data.toList))) with
            | true => match mkStr ((s.data.toList.drop (natB l)).take (Nat.sub (natB h) (natB l))) with
              | some v => pureB v
              | none => none
            | false => none
          | none => none
        | none => none
      | some _ => none
    | _ => none
  | .array n e => match knownB (T e) with
    | true => match x with
      | .loc j o => match optB ev g 0 lo with
        | some l => match optB ev g (.ofNat n) hi with
          | some h => match mx with
            | none => match okB g (leB 0 l && leB l h && leB h (.ofNat n)) with
              | true => match decide (l = .ofNat n) with
                | true => pureB .nils
                | false => forceN (Nat.add o (Nat.mul (natB l) (T e).size)) fun o' => forceN (Nat.sub (natB h) (natB l)) fun ln => forceN (Nat.sub n (natB l)) fun cp => pureB (.csl j o' ln cp)
              | false => none
            | some m => match optB ev g 0 (some m) with
              | some m => match hi.isSome && okB g (leB 0 l && leB l h && leB h m && leB m (.ofNat n)) with
                | true => match decide (m = l) with
                  | true => pureB .nils
                  | false => forceN (Nat.add o (Nat.mul (natB l) (T e).size)) fun o' => forceN (Nat.sub (natB h) (natB l)) fun ln => forceN (Nat.sub (natB m) (natB l)) fun cp => pureB (.csl j o' ln cp)
                | false => none
              | none => none
          | none => none
        | none => none
      | _ => none
    | false => none
  | .slice e => match knownB (T e) with
    | true => match x with
      | .sl α enc sz d xs => match mx with
        | none => match optB ev g 0 lo with
          | some l => match optB ev g (.ofNat (lenB xs)) hi with
            | some h => match Nat.beq sz (T e).size && okB g (leB 0 l && leB l h && leB h (.ofNat (lenB xs))) with
              | true => match takeB (dropB xs (natB l)) (Nat.sub (natB h) (natB l)) with
                | some ys => pureB (.sl α enc sz d ys)
                | none => none
              | false => none
            | none => none
          | none => none
        | some _ => none
      | .nils => match mx with
        | none => match optB ev g 0 lo with
          | some l => match optB ev g 0 hi with
            | some h => match okB g (decide (l = 0) && decide (h = 0)) with
              | true => pureB .nils
              | false => none
            | none => none
          | none => none
        | some _ => none
      | .rowf j ver => match mx with
        | none => match nthL hp j with
          | some (.row _ _ _ _ xs ver') => match optB ev g 0 lo with
            | some l => match optB ev g (.ofNat (lenB xs)) hi with
              | some h => match okB g (Nat.beq ver ver' && decide (l = 0) && decide (h = .ofNat (lenB xs))) with
                | true => some (.rowf j ver, [], [j])
                | false => none
              | none => none
            | none => none
          | _ => none
        | some m => match nthL hp j with
          | some (.row _ _ _ _ xs ver') => match optB ev g 0 lo with
            | some l => match optB ev g (.ofNat (lenB xs)) hi with
              | some h => match optB ev g 0 (some m) with
                | some m => match hi.isSome && okB g (Nat.beq ver ver' && decide (l = 0) && decide (h = 0) && decide (m = 0)) with
                  | true => some (.nils, [], [j])
                  | false => none
                | none => none
              | none => none
            | none => none
          | _ => none
      | _ => none
    | false => none
  | _ => none
theorem pureB_inv' {v v' : AV} {wr : List (Nat × Obj)} {rd : List Nat} (h : pureB v = some (v', wr, rd)) : v' = v ∧ wr = [] ∧ rd = [] := by cases h; exact ⟨rfl, rfl, rfl⟩
theorem leB_spec {a b : Int} {n : Nat} (h : (leB 0 a && leB a b && leB b (.ofNat n)) = true) : 0 ≤ a ∧ a ≤ b ∧ b ≤ (n : Int) := by
  simp only [Bool.and_eq_true, leB, decide_eq_true_eq] at h
  exact ⟨h.1.1, h.1.2, h.2⟩
theorem sliceB_spec {t : Nat} {x : AV} {lo hi mx : Option Operand} {ev : Operand → AV} {hp : List Obj} {v : AV} {wr : List (Nat × Obj)} {rd : List Nat} {K : AV → List Nat → Prop} (h : sliceB T g t x lo hi mx ev hp = some (v, wr, rd)) (hk : K v rd) : wr = [] ∧ sliceE T t x lo hi mx ev hp g K := by
  unfold sliceB at h
  unfold sliceE
  split at h
  · rename_i hkt
    simp only [hkt]
    cases x <;> first | (cases h; done) | skip
    rename_i s
    cases mx <;> first | (cases h; done) | skip
    have hs : lenB s.data.toList = s.size := lenB_eq _
    simp only [hs] at h ⊢
    split at h
    · rename_i l hl
      split at h
      · rename_i hh hh'
        split at h
        · rename_i h0
          rw [mkStr_eq] at h
          cases h
          refine ⟨rfl, optB_spec hl (optB_spec hh' ⟨okB_spec leB_spec h0, ?_⟩)⟩
          have e := mkS_ext s (natB l) (natB hh)
          rw [natB_eq, natB_eq] at e
          rw [← e, ← natB_eq, ← natB_eq]
          exact hk
        · cases h
      · cases h
    · cases h
  · rename_i n e hkt
    simp only [hkt]
    split at h
    · rename_i hkn
      cases x <;> first | (cases h; done) | skip
      rename_i j o
      simp only [forceN_eq] at h ⊢
      split at h
      · rename_i l hl
        split at h
        · rename_i hh hh'
          cases mx with
          | none =>
            simp only at h ⊢
            split at h
            · rename_i h0
              split at h
              · rename_i h1
                obtain ⟨rfl, rfl, rfl⟩ := pureB_inv' h
                refine ⟨rfl, knownB_spec hkn (optB_spec hl (optB_spec hh' ⟨okB_spec leB_spec h0, ?_⟩))⟩
                have h1 : decide (l = (n : Int)) = true := h1
                simp only [h1]
                exact hk
              · rename_i h1
                obtain ⟨rfl, rfl, rfl⟩ := pureB_inv' h
                refine ⟨rfl, knownB_spec hkn (optB_spec hl (optB_spec hh' ⟨okB_spec leB_spec h0, ?_⟩))⟩
                have h1 : decide (l = (n : Int)) = false := h1
                simp only [h1]
                simp only [natB_eq] at hk
                exact hk
            · cases h
          | some m =>
            simp only at h ⊢
            split at h
            · rename_i m' hm
              split at h
              · rename_i h0
                rw [Bool.and_eq_true] at h0
                split at h
                · rename_i h1
                  obtain ⟨rfl, rfl, rfl⟩ := pureB_inv' h
                  refine ⟨rfl, knownB_spec hkn (optB_spec hl (optB_spec hh' ⟨h0.1, optB_spec hm ⟨okB_spec (fun h => ?_) h0.2, ?_⟩⟩))⟩
                  · simp only [Bool.and_eq_true, leB, decide_eq_true_eq] at h
                    exact ⟨h.1.1.1, h.1.1.2, h.1.2, h.2⟩
                  · simp only [h1]
                    exact hk
                · rename_i h1
                  obtain ⟨rfl, rfl, rfl⟩ := pureB_inv' h
                  refine ⟨rfl, knownB_spec hkn (optB_spec hl (optB_spec hh' ⟨h0.1, optB_spec hm ⟨okB_spec (fun h => ?_) h0.2, ?_⟩⟩))⟩
                  · simp only [Bool.and_eq_true, leB, decide_eq_true_eq] at h
                    exact ⟨h.1.1.1, h.1.1.2, h.1.2, h.2⟩
                  · simp only [h1]
                    simp only [natB_eq] at hk
                    exact hk
              · cases h
            · cases h
        · cases h
      · cases h
    · cases h
  · rename_i e hkt
    simp only [hkt]
    split at h
    · rename_i hkn
      cases x <;> first | (cases h; done) | skip
      · cases mx <;> first | (cases h; done) | skip
        simp only at h ⊢
        split at h
        · rename_i l hl
          split at h
          · rename_i hh hh'
            split at h
            · rename_i h0
              cases h
              refine ⟨rfl, knownB_spec hkn (optB_spec hl (optB_spec hh' ?_))⟩
              exact ⟨okB_spec (fun h => by simp only [Bool.and_eq_true, decide_eq_true_eq] at h; exact h) h0, hk⟩
            · cases h
          · cases h
        · cases h
      · rename_i α enc sz d xs
        cases mx <;> first | (cases h; done) | skip
        simp only [takeB_eq, dropB_eq, lenB_eq] at h ⊢
        split at h
        · rename_i l hl
          split at h
          · rename_i hh hh'
            split at h
            · rename_i h0
              simp only [Bool.and_eq_true] at h0
              cases h
              refine ⟨rfl, knownB_spec hkn ⟨h0.1, optB_spec hl (optB_spec hh' ?_)⟩⟩
              refine ⟨okB_spec leB_spec (by simpa only [Bool.and_eq_true] using h0.2), ?_⟩
              rw [← natB_eq, ← natB_eq]
              exact hk
            · cases h
          · cases h
        · cases h
      · rename_i j ver
        cases mx
        · simp only at h ⊢
          split at h
          · rename_i α enc sz d xs ver' hj
            rw [nthL_eq] at hj
            simp only [hj]
            simp only [lenB_eq] at h
            split at h
            · rename_i l hl
              split at h
              · rename_i hh hh'
                split at h
                · rename_i h0
                  cases h
                  refine ⟨rfl, knownB_spec hkn (optB_spec hl (optB_spec hh' ⟨okB_spec (fun h => ?_) h0, hk⟩))⟩
                  simp only [Bool.and_eq_true, decide_eq_true_eq] at h
                  exact ⟨Nat.eq_of_beq_eq_true h.1.1, h.1.2, h.2⟩
                · cases h
              · cases h
            · cases h
          · cases h
        · simp only at h ⊢
          split at h
          · rename_i α enc sz d xs ver' hj
            rw [nthL_eq] at hj
            simp only [hj]
            simp only [lenB_eq] at h
            split at h
            · rename_i l hl
              split at h
              · rename_i hh hh'
                split at h
                · rename_i m hm
                  split at h
                  · rename_i h0
                    rw [Bool.and_eq_true] at h0
                    cases h
                    refine ⟨rfl, knownB_spec hkn (optB_spec hl (optB_spec hh' ⟨h0.1, optB_spec hm ⟨okB_spec (fun h => ?_) h0.2, hk⟩⟩))⟩
                    simp only [Bool.and_eq_true, decide_eq_true_eq] at h
                    exact ⟨Nat.eq_of_beq_eq_true h.1.1.1, h.1.1.2, h.1.2, h.2⟩
                  · cases h
                · cases h
              · cases h
            · cases h
          · cases h
    · cases h
  · cases h
end
end
end Go.Mir
