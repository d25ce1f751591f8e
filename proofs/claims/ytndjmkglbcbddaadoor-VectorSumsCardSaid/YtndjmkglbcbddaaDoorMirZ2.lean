/- An evaluator for code without symbols, for the kernel: the other operations. No condition. -/
import Derived.Test.YtndjmkglbcbddaaDoorMirZ1
set_option linter.unusedVariables false
set_option maxRecDepth 10000
namespace Go.Mir
noncomputable section

def bytesEq : List UInt8 → List UInt8 → Bool
  | [], [] => true
  | a :: x, b :: y => match Nat.beq a.toNat b.toNat with
    | true => bytesEq x y
    | false => false
  | _, _ => false
theorem bytesEq_eq : ∀ (x y : List UInt8), bytesEq x y = decide (x = y)
  | [], [] => by simp [bytesEq]
  | a :: x, [] => by simp [bytesEq]
  | [], b :: y => by simp [bytesEq]
  | a :: x, b :: y => by
    simp only [bytesEq]
    by_cases h : a.toNat = b.toNat
    · have hab : a = b := UInt8.toNat.inj h
      rw [show Nat.beq a.toNat b.toNat = true by rw [h]; exact Nat.beq_refl _]
      simp only
      rw [bytesEq_eq x y, hab]
      simp
    · have hb : Nat.beq a.toNat b.toNat = false := by
        cases hb : Nat.beq a.toNat b.toNat with
        | false => rfl
        | true => exact absurd (Nat.eq_of_beq_eq_true hb) h
      have hab : ¬ a = b := fun e => h (by rw [e])
      rw [hb]
      simp [hab]
theorem strEq_eq (a b : ByteArray) : bytesEq a.data.toList b.data.toList = decide (a = b) := by
  rw [bytesEq_eq]
  by_cases h : a = b
  · subst h; simp
  · have : ¬ a.data.toList = b.data.toList := fun e => h (by
      cases a
      cases b
      simp only [ByteArray.mk.injEq]
      exact Array.toList_inj.1 e)
    simp [h, this]
def bytesLt : List UInt8 → List UInt8 → Bool
  | _, [] => false
  | [], _ :: _ => true
  | a :: x, b :: y => match Nat.blt a.toNat b.toNat with
    | true => true
    | false => match Nat.beq a.toNat b.toNat with
      | true => bytesLt x y
      | false => false
theorem bytesLt_eq : ∀ (x y : List UInt8), bytesLt x y = Op.bytesLess x y
  | [], [] => by simp [bytesLt, Op.bytesLess]
  | a :: x, [] => by simp [bytesLt, Op.bytesLess]
  | [], b :: y => by simp [bytesLt, Op.bytesLess]
  | a :: x, b :: y => by
    simp only [bytesLt, Op.bytesLess]
    by_cases h : a.toNat < b.toNat
    · rw [show Nat.blt a.toNat b.toNat = true from Nat.ble_eq_true_of_le h]
      have : a < b := UInt8.lt_iff_toNat_lt.2 h
      simp [this]
    · have hb : Nat.blt a.toNat b.toNat = false := by
        cases hb : Nat.blt a.toNat b.toNat with
        | false => rfl
        | true => exact absurd (Nat.le_of_ble_eq_true hb) h
      have hn : ¬ a < b := fun e => h (UInt8.lt_iff_toNat_lt.1 e)
      rw [hb]
      simp only
      by_cases h2 : a.toNat = b.toNat
      · have hab : a = b := UInt8.toNat.inj h2
        rw [show Nat.beq a.toNat b.toNat = true by rw [h2]; exact Nat.beq_refl _]
        simp only
        rw [bytesLt_eq x y]
        subst hab
        simp
      · have hb : Nat.beq a.toNat b.toNat = false := by
          cases hb : Nat.beq a.toNat b.toNat with
          | false => rfl
          | true => exact absurd (Nat.eq_of_beq_eq_true hb) h2
        have hab : ¬ a = b := fun e => h2 (by rw [e])
        rw [hb]
        simp [hn, hab]
theorem strLt_eq (a b : ByteArray) : bytesLt a.data.toList b.data.toList = strLt a b := by
  rw [bytesLt_eq, strLt, Go.ByteArray.toList_eq, Go.ByteArray.toList_eq]
def mkS (l : List UInt8) : ByteArray := ⟨⟨l⟩⟩
theorem mkS_app (a b : ByteArray) : mkS (a.data.toList ++ b.data.toList) = a ++ b := by
  have : (a ++ b).data = ⟨a.data.toList ++ b.data.toList⟩ := by
    rw [ByteArray.data_append, ← Array.toList_append]
  show (⟨⟨_⟩⟩ : ByteArray) = _
  rw [← this]
theorem mkS_ext (a : ByteArray) (l h : Nat) : mkS ((a.data.toList.drop l).take (h - l)) = a.extract l h := by
  have : (a.extract l h).data = ⟨(a.data.toList.drop l).take (h - l)⟩ := by
    rw [ByteArray.data_extract]
    apply Array.ext'
    rw [Array.toList_extract]
  show (⟨⟨_⟩⟩ : ByteArray) = _
  rw [← this]

def mkI (k : IntKind) (n : Int) : Option AV := forceI n fun n => some (.int k n)
theorem mkI_eq (k : IntKind) (n : Int) : mkI k n = some (.int k n) := forceI_eq n _
def mkB (b : Bool) : Option AV := forceB b fun b => some (.bool b)
theorem mkB_eq (b : Bool) : mkB b = some (.bool b) := forceB_eq b _
def mkStr (l : List UInt8) : Option AV := forceS l fun l => some (.str (mkS l))
theorem mkStr_eq (l : List UInt8) : mkStr l = some (.str (mkS l)) := forceS_eq l _

def nzB (b : Int) : Bool := match b with
  | .ofNat 0 => false
  | _ => true
theorem nzB_spec {b : Int} (h : nzB b = true) : b ≠ 0 := by
  rintro rfl
  cases h
def nnB (b : Int) : Bool := match b with
  | .ofNat _ => true
  | _ => false
theorem nnB_spec {b : Int} (h : nnB b = true) : 0 ≤ b := by
  cases b with
  | ofNat n => simp
  | negSucc n => cases h

section
variable {P : Program} {T : Nat → TI} {g : Option Bool}
def boolOrB (g : Option Bool) (v : AV) (hyp : Bool) : Option Bool := match v with
  | .bool x => some x
  | .when b v => match v with
    | .bool x => match okB g (!hyp || b) with
      | true => some x
      | false => none
    | _ => none
  | _ => none
theorem boolOrB_spec {v : AV} {hyp : Bool} {p : Prop} (hp : p → hyp = true) {r : Bool} {K : Bool → Prop} (h : boolOrB g v hyp = some r) (hk : K r) : boolOr g v p K := by
  unfold boolOrB at h
  unfold boolOr
  split at h
  · cases h; exact hk
  · split at h
    · split at h
      · rename_i h1
        cases h
        refine ⟨okB_spec (fun h => ?_) h1, hk⟩
        intro hp'
        simpa [hp hp'] using h
      · cases h
    · cases h
  · cases h
def pickB (g : Option Bool) (c a b : AV) : Option AV := match c with
  | .bool c => match boolOrB g a c with
    | some x => match boolOrB g b (!c) with
      | some y => mkB (bif c then x else y)
      | none => none
    | none => none
  | .when d v => match v with
    | .bool c => match okB g d with
      | true => match boolOrB g a c with
        | some x => match boolOrB g b (!c) with
          | some y => mkB (bif c then x else y)
          | none => none
        | none => none
      | false => none
    | _ => none
  | _ => none
theorem pickB_spec {c a b r : AV} {K : AV → Prop} (h : pickB g c a b = some r) (hk : K r) : pickE g c a b K := by
  have two : ∀ (c : Bool), (match boolOrB g a c with
    | some x => match boolOrB g b (!c) with
      | some y => mkB (bif c then x else y)
      | none => none
    | none => none) = some r → boolOr g a (c = true) fun x => boolOr g b (c = false) fun y => K (.bool (bif c then x else y)) := by
    intro c h
    split at h
    · rename_i x h1
      split at h
      · rename_i y h2
        rw [mkB_eq] at h
        cases h
        exact boolOrB_spec (K := fun x => boolOr g b (c = false) fun y => K (.bool (bif c then x else y))) id h1 (boolOrB_spec (K := fun y => K (.bool (bif c then x else y))) (by intro e; rw [e]; rfl) h2 hk)
      · cases h
    · cases h
  unfold pickB at h
  unfold pickE
  split at h
  · exact two _ h
  · split at h
    · split at h
      · rename_i h1
        exact ⟨okB_spec id h1, two _ h⟩
      · cases h
    · cases h
  · cases h

def offB (p : AV) (off : Nat) : Option AV := match p with
  | .fz cs => match skipB cs off with
    | some cs' => some (.fz cs')
    | none => none
  | .loc j o => forceN (Nat.add o off) fun o => some (.loc j o)
  | .rloc j v i o => forceN (Nat.add o off) fun o => some (.rloc j v i o)
  | _ => none
theorem offB_spec {p r : AV} {off : Nat} {K : AV → Prop} (h : offB p off = some r) (hk : K r) : offE p off K := by
  unfold offB at h
  unfold offE
  split at h
  · split at h
    · rename_i h1
      cases h
      exact skipB_spec (K := fun cs' => K (.fz cs')) h1 hk
    · cases h
  · rw [forceN_eq] at h; cases h; exact hk
  · rw [forceN_eq] at h; cases h; exact hk
  · cases h

def indexAddrB (T : Nat → TI) (g : Option Bool) (t : Nat) (p : AV) (i : Int) (hp : List Obj) : Res := match (T t).k with
  | .slice e => match knownB (T e) with
    | true => match p with
      | .sl _ enc sz d xs => match Nat.beq sz (T e).size && okB g (iltB i (lenB xs)) with
        | true => match copyB (enc (xs.getD (natB i) d)) with
          | some l => pureB (.fz l)
          | none => none
        | false => none
      | .rowf j ver => match nthL hp j with
        | some (.row _ _ sz _ xs ver') => match Nat.beq sz (T e).size && okB g (Nat.beq ver ver' && iltB i (lenB xs)) with
          | true => forceN (natB i) fun i => some (.rloc j ver i 0, [], [j])
          | false => none
        | _ => none
      | _ => none
    | false => none
  | .array n e => match knownB (T e) && okB g (iltB i n) && nnB i with
    | true => match offB p (Nat.mul (natB i) (T e).size) with
      | some q => pureB q
      | none => none
    | false => none
  | _ => none
theorem indexAddrB_spec {t : Nat} {p : AV} {i : Int} {hp : List Obj} {v : AV} {wr : List (Nat × Obj)} {rd : List Nat} {K : AV → List Nat → Prop} (h : indexAddrB T g t p i hp = some (v, wr, rd)) (hk : K v rd) : wr = [] ∧ indexAddrE T t p i hp g K := by
  unfold indexAddrB at h
  unfold indexAddrE
  split at h
  · rename_i e he
    simp only [he]
    split at h
    · rename_i hkn
      split at h
      · rename_i α enc sz d xs
        split at h
        · rename_i h0
          rw [copyB_eq] at h
          simp only [Bool.and_eq_true] at h0
          cases h
          refine ⟨rfl, knownB_spec hkn ⟨Nat.eq_of_beq_eq_true h0.1, okB_spec (fun h => ?_) h0.2, ?_⟩⟩
          · have := iltB_spec h
            rw [lenB_eq] at this
            exact ⟨this.1, this.2.1⟩
          · rw [← natB_eq]
            exact hk
        · cases h
      · rename_i j ver
        split at h
        · rename_i α enc sz d xs ver' hj
          split at h
          · rename_i h0
            rw [forceN_eq] at h
            simp only [Bool.and_eq_true] at h0
            cases h
            rw [nthL_eq] at hj
            refine ⟨rfl, knownB_spec hkn ?_⟩
            simp only [hj]
            refine ⟨Nat.eq_of_beq_eq_true h0.1, okB_spec (fun h => ?_) h0.2, ?_⟩
            · simp only [Bool.and_eq_true] at h
              have := iltB_spec h.2
              rw [lenB_eq] at this
              exact ⟨Nat.eq_of_beq_eq_true h.1, this.1, this.2.1⟩
            · rw [← natB_eq]
              exact hk
          · cases h
        · cases h
      · cases h
    · cases h
  · rename_i n e he
    simp only [he]
    split at h
    · rename_i h0
      simp only [Bool.and_eq_true] at h0
      split at h
      · rename_i q h1
        cases h
        have hi : (i.toNat : Int) = i := Int.toNat_of_nonneg (nnB_spec h0.2)
        refine ⟨rfl, knownB_spec h0.1.1 ⟨i.toNat, ob_of hi.symm, okB_spec (fun h => (iltB_spec h).2.2) h0.1.2, ?_⟩⟩
        rw [← natB_eq]
        exact offB_spec (K := fun q => K q []) h1 hk
      · cases h
    · cases h
  · cases h

def indexB (T : Nat → TI) (g : Option Bool) (t : Nat) (x : AV) (i : Int) : Option AV := match x with
  | .str s => match (T t).k with
    | .str => match nnB i with
      | true => match nthL s.data.toList (natB i) with
        | some b => forceN b.toNat fun n => some (.int .u8 (.ofNat n))
        | none => match g with
          | some false => some (.int .u8 (.ofNat 0))
          | _ => none
      | false => none
    | _ => none
  | .agg cs => match (T t).k with
    | .array n e => match knownB (T e) && okB g (iltB i n) && nnB i with
      | true => match skipB cs (Nat.mul (natB i) (T e).size) with
        | some cs' => readB (T e) cs'
        | none => none
      | false => none
    | _ => none
  | _ => none
theorem bat_at {s : ByteArray} {i : Nat} {b : UInt8} (h : s.data.toList[i]? = some b) : i < s.size ∧ bat s i = (b.toNat : Int) := by
  have h1 : i < s.size := by
    exact (List.getElem?_eq_some_iff.1 h).1
  refine ⟨h1, ?_⟩
  unfold bat
  rw [dif_pos h1]
  congr 1
  obtain ⟨h2, h3⟩ := List.getElem?_eq_some_iff.1 h
  rw [← h3]
  rfl
theorem bat_out {s : ByteArray} {i : Nat} (h : s.data.toList[i]? = none) : bat s i = 0 := by
  unfold bat
  rw [dif_neg]
  intro h1
  have : s.size ≤ i := List.getElem?_eq_none_iff.1 h
  omega
theorem indexB_spec {t : Nat} {x : AV} {i : Int} {r : AV} {K : AV → Prop} (h : indexB T g t x i = some r) (hk : K r) : indexE T t x i g K := by
  unfold indexB at h
  unfold indexE
  split at h
  · rename_i s
    split at h
    · rename_i hkt
      simp only [hkt]
      split at h
      · rename_i hnn
        have hn := nnB_spec hnn
        split at h
        · rename_i b hb
          rw [forceN_eq] at h
          rw [nthL_eq, natB_eq] at hb
          obtain ⟨h1, h2⟩ := bat_at hb
          cases h
          refine ⟨ob_of ⟨hn, by omega⟩, ?_⟩
          rw [h2]
          exact hk
        · rename_i hb
          rw [nthL_eq, natB_eq] at hb
          split at h
          · cases h
            refine ⟨fun h => (by cases h), ?_⟩
            rw [bat_out hb]
            exact hk
          · cases h
      · cases h
    · cases h
  · split at h
    · rename_i n e hkt
      simp only [hkt]
      split at h
      · rename_i h0
        simp only [Bool.and_eq_true] at h0
        split at h
        · rename_i cs' h1
          have hi : (i.toNat : Int) = i := Int.toNat_of_nonneg (nnB_spec h0.2)
          refine knownB_spec h0.1.1 ⟨i.toNat, ob_of hi.symm, okB_spec (fun h => (iltB_spec h).2.2) h0.1.2, ?_⟩
          rw [← natB_eq]
          exact skipB_spec (K := fun cs' => cut cs' (T e).size fun l => wrapAV (T e) l K) h1 (readB_spec h hk)
        · cases h
      · cases h
    · cases h
  · cases h

def intB (g : Option Bool) (op : BinOp) (k : IntKind) (a b : Int) : Option AV := match op with
  | .add => mkI k (k.wrap (a + b))
  | .sub => mkI k (k.wrap (a - b))
  | .mul => mkI k (k.wrap (a * b))
  | .quo => match okB g (nzB b) with
    | true => mkI k (k.wrap (a.tdiv b))
    | false => none
  | .rem => match okB g (nzB b) with
    | true => mkI k (a.tmod b)
    | false => none
  | .and => mkI k (k.wrap (BitVec.ofInt k.bits a &&& BitVec.ofInt k.bits b).toNat)
  | .or => mkI k (k.wrap (BitVec.ofInt k.bits a ||| BitVec.ofInt k.bits b).toNat)
  | .xor => mkI k (k.wrap (BitVec.ofInt k.bits a ^^^ BitVec.ofInt k.bits b).toNat)
  | .andNot => mkI k (k.wrap (BitVec.ofInt k.bits a &&& ~~~ BitVec.ofInt k.bits b).toNat)
  | .eql => mkB (decide (a = b))
  | .neq => mkB (!decide (a = b))
  | .lss => mkB (decide (a < b))
  | .leq => mkB (decide (a ≤ b))
  | .gtr => mkB (decide (b < a))
  | .geq => mkB (decide (b ≤ a))
  | _ => none
theorem intB_spec {op : BinOp} {k : IntKind} {a b : Int} {r : AV} {K : AV → Prop} (h : intB g op k a b = some r) (hk : K r) : binInt op k a b g K := by
  unfold intB at h
  unfold binInt
  cases op <;> simp only [mkI_eq, mkB_eq] at h ⊢ <;> first
    | (cases h; exact ⟨_, ob_of rfl, hk⟩)
    | (cases h; exact hk)
    | (cases h; done)
    | (split at h
       · rename_i h0
         cases h
         exact ⟨okB_spec nzB_spec h0, _, ob_of rfl, hk⟩
       · cases h)

def strB (g : Option Bool) (op : BinOp) (a b : ByteArray) : Option AV := match op with
  | .add => match Nat.ble (Nat.add (lenB a.data.toList) (lenB b.data.toList)) 9223372036854775807 with
    | true => mkStr (a.data.toList ++ b.data.toList)
    | false => none
  | .eql => mkB (bytesEq a.data.toList b.data.toList)
  | .neq => mkB (!bytesEq a.data.toList b.data.toList)
  | .lss => mkB (bytesLt a.data.toList b.data.toList)
  | .leq => mkB (bytesLt a.data.toList b.data.toList || bytesEq a.data.toList b.data.toList)
  | .gtr => mkB (!(bytesLt a.data.toList b.data.toList || bytesEq a.data.toList b.data.toList))
  | .geq => mkB (!bytesLt a.data.toList b.data.toList)
  | _ => none
theorem strB_spec {op : BinOp} {a b : ByteArray} {r : AV} {K : AV → Prop} (h : strB g op a b = some r) (hk : K r) : binStr op a b g K := by
  unfold strB at h
  unfold binStr
  cases op <;> simp only [mkB_eq, mkStr_eq, strEq_eq, strLt_eq] at h ⊢ <;> first
    | (cases h; exact hk)
    | (cases h; done)
    | (split at h
       · rename_i h0
         cases h
         rw [mkS_app] at hk
         refine ⟨ob_of ?_, hk⟩
         have := Nat.le_of_ble_eq_true h0
         rw [lenB_eq, lenB_eq] at this
         exact Int.ofNat_le.2 this
       · cases h)

def eqB (k : TK) (x y : AV) : Option Bool := match k with
  | .bool => match x with
    | .bool a => match y with
      | .bool b => forceB (a == b) some
      | _ => none
    | _ => none
  | .ptr _ => match x with
    | .nilp => match y with
      | .nilp => some true
      | y => match isPtr y with
        | true => some false
        | false => none
    | x => match y with
      | .nilp => match isPtr x with
        | true => some false
        | false => none
      | _ => none
  | .func => match x with
    | .nilf => match y with
      | .nilf => some true
      | .fn _ _ _ => some false
      | _ => none
    | .fn _ _ _ => match y with
      | .nilf => some false
      | _ => none
    | _ => none
  | _ => none
theorem eqB_spec {k : TK} {x y : AV} {r : Bool} {K : Bool → Prop} (h : eqB k x y = some r) (hk : K r) : eqAV k x y K := by
  cases k <;> first | (cases h; done) | skip
  · cases x <;> first | (cases h; done) | skip
    cases y <;> first | (cases h; done) | skip
    simp only [eqB, forceB_eq] at h
    cases h
    exact hk
  · cases x <;> cases y <;> first | (cases h; done) | (cases h; exact hk) | (cases h; exact ⟨rfl, hk⟩)
  · cases x <;> first | (cases h; done) | skip
    · cases y <;> first | (cases h; done) | (cases h; exact hk)
    · cases y <;> first | (cases h; done) | (cases h; exact hk)

/-- How aggregates of a type are held against each other. -/
def EqtOk (P : Program) (eqt : Nat → List AV → List AV → Option Bool) : Prop := ∀ t xs ys r, eqt t xs ys = some r → EqTo P t xs ys r
def binB (T : Nat → TI) (eqt : Nat → List AV → List AV → Option Bool) (g : Option Bool) (op : BinOp) (t : Nat) (x y : AV) : Option AV := match x with
  | .int k a => match y with
    | .int k' b => match op with
      | .shl => match okB g (nnB b) with
        | true => mkI k (k.wrap (a * 2 ^ min b.toNat k.bits))
        | false => none
      | .shr => match okB g (nnB b) with
        | true => mkI k (a.fdiv (2 ^ min b.toNat k.bits))
        | false => none
      | op => match decide (k = k') with
        | true => intB g op k a b
        | false => none
    | _ => none
  | .str a => match y with
    | .str b => strB g op a b
    | _ => none
  | .agg xs => match y with
    | .agg ys => match op with
      | .eql => match closedB xs && closedB ys with
        | true => match eqt t xs ys with
          | some r => some (.bool r)
          | none => none
        | false => none
      | .neq => match closedB xs && closedB ys with
        | true => match eqt t xs ys with
          | some r => mkB (!r)
          | none => none
        | false => none
      | _ => none
    | _ => none
  | x => match op with
    | .eql => match eqB (T t).k x y with
      | some b => some (.bool b)
      | none => none
    | .neq => match eqB (T t).k x y with
      | some b => mkB (!b)
      | none => none
    | _ => none
theorem eqs_spec {op : BinOp} {t : Nat} {r : AV} {K : AV → Prop} (hk : K r) (x y : AV) (h : (match op with
    | .eql => match eqB (T t).k x y with
      | some b => some (AV.bool b)
      | none => none
    | .neq => match eqB (T t).k x y with
      | some b => mkB (!b)
      | none => none
    | _ => none) = some r) : match (generalizing := false) op with
    | .eql => eqAV (T t).k x y fun b => K (.bool b)
    | .neq => eqAV (T t).k x y fun b => K (.bool (!b))
    | _ => False := by
  cases op <;> first | (cases h; done) | skip
  · simp only at h ⊢
    split at h
    · rename_i h1
      cases h
      exact eqB_spec (K := fun b => K (.bool b)) h1 hk
    · cases h
  · simp only at h ⊢
    split at h
    · rename_i h1
      rw [mkB_eq] at h
      cases h
      exact eqB_spec (K := fun b => K (.bool (!b))) h1 hk
    · cases h
theorem binB_spec {eqt : Nat → List AV → List AV → Option Bool} (he : EqtOk P eqt) {op : BinOp} {t : Nat} {x y r : AV} {K : AV → Prop} (h : binB T eqt g op t x y = some r) (hk : K r) : binE P T op t x y g K := by
  cases x with
  | int k a =>
    cases y <;> first | (cases h; done) | skip
    rename_i k' b
    have gen : (match decide (k = k') with
      | true => intB g op k a b
      | false => none) = some r → (k = k' ∧ binInt op k a b g K) := by
      intro h
      split at h
      · rename_i h1
        exact ⟨of_decide_eq_true h1, intB_spec h hk⟩
      · cases h
    have shf : ∀ v : Int, (match okB g (nnB b) with
      | true => mkI k v
      | false => none) = some r → (ob g (0 ≤ b) ∧ ∃ r, ob g (v = r) ∧ K (.int k r)) := by
      intro v h
      split at h
      · rename_i h1
        rw [mkI_eq] at h
        cases h
        exact ⟨okB_spec nnB_spec h1, _, ob_of rfl, hk⟩
      · cases h
    cases op <;> first | exact gen h | exact shf _ h
  | str a =>
    cases y <;> first | (cases h; done) | skip
    exact strB_spec (op := op) h hk
  | agg xs =>
    cases y <;> first | (cases h; done) | skip
    rename_i ys
    cases op <;> first | (cases h; done) | skip
    · simp only [binB] at h
      split at h
      · rename_i h1
        simp only [Bool.and_eq_true] at h1
        split at h
        · rename_i r' h2
          cases h
          exact ⟨h1.1, h1.2, r', ob_of (he _ _ _ _ h2), hk⟩
        · cases h
      · cases h
    · simp only [binB] at h
      split at h
      · rename_i h1
        simp only [Bool.and_eq_true] at h1
        split at h
        · rename_i r' h2
          rw [mkB_eq] at h
          cases h
          exact ⟨h1.1, h1.2, r', ob_of (he _ _ _ _ h2), hk⟩
        · cases h
      · cases h
  | any => exact eqs_spec (op := op) hk _ _ h
  | bool => exact eqs_spec (op := op) hk _ _ h
  | nilp => exact eqs_spec (op := op) hk _ _ h
  | nilf => exact eqs_spec (op := op) hk _ _ h
  | nili => exact eqs_spec (op := op) hk _ _ h
  | nilm => exact eqs_spec (op := op) hk _ _ h
  | nils => exact eqs_spec (op := op) hk _ _ h
  | tup => exact eqs_spec (op := op) hk _ _ h
  | sl => exact eqs_spec (op := op) hk _ _ h
  | fz => exact eqs_spec (op := op) hk _ _ h
  | fmap => exact eqs_spec (op := op) hk _ _ h
  | loc => exact eqs_spec (op := op) hk _ _ h
  | rowf => exact eqs_spec (op := op) hk _ _ h
  | rloc => exact eqs_spec (op := op) hk _ _ h
  | csl => exact eqs_spec (op := op) hk _ _ h
  | mp => exact eqs_spec (op := op) hk _ _ h
  | fn => exact eqs_spec (op := op) hk _ _ h
  | «when» => exact eqs_spec (op := op) hk _ _ h
end
end
end Go.Mir
