/- What each operation does to abstract states, as a function that is computed. No condition. -/
import Derived.Test.YtndjmkglbcbddaaDoorMirB
import Derived.Laws.BytesArg
set_option linter.unusedVariables false
namespace Go.Mir

/-! ### Types -/
inductive TK where
  | bool | int (k : IntKind) | str | ptr (e : Nat) | slice (e : Nat) | array (n e : Nat) | map (k e : Nat) | struct (fs : List (Nat × Nat)) | func | iface | other

/-- What is known of a type: its kind, its cells, its bytes, its zero value, and the data that elements of it are held as. -/
structure TI where
  k : TK
  size : Nat
  bytes : Nat
  zero : List AV
  α : Type
  enc : α → List AV
  d : α

def TK.agg : TK → Bool
  | .struct _ | .array _ _ => true
  | _ => false

/-! ### Small words -/
def ob (g : Option Bool) (p : Prop) : Prop :=
  match g with
  | none => p
  | some b => b = true → p

def fin (g : Option Bool) (v : AV) : AV :=
  match g with
  | none => v
  | some b => match v with
    | .when b' v' => .when (b && b') v'
    | v => .when b v

def strip (g : Option Bool) (v : AV) (K : AV → Prop) : Prop :=
  match v with
  | .when b v' => ob g (b = true) ∧ K v'
  | v => K v

/-- No reference to an owned object. -/
def AV.closed : AV → Bool
  | .loc _ _ | .rowf _ _ | .rloc _ _ _ _ | .mp _ | .csl _ _ _ _ => false
  | .agg cs => closeds cs
  | .tup cs => closeds cs
  | .fn _ as cs => closeds as && closeds cs
  | .when _ v => AV.closed v
  | _ => true
where
  closeds : List AV → Bool
  | [] => true
  | c :: cs => AV.closed c && closeds cs

/-- A value of one cell. -/
def AV.one : AV → Bool
  | .any | .agg _ | .tup _ | .when _ _ => false
  | _ => true

def ones : List AV → Bool
  | [] => true
  | c :: cs => c.one && ones cs

def cut : List AV → Nat → (List AV → Prop) → Prop
  | _, 0, K => K []
  | c :: cs, n + 1, K => cut cs n fun l => K (c :: l)
  | [], _ + 1, _ => False

def skip : List AV → Nat → (List AV → Prop) → Prop
  | l, 0, K => K l
  | _ :: cs, n + 1, K => skip cs n K
  | [], _ + 1, _ => False

/-- The value's head is reckoned. -/
def headA (v : AV) (K : AV → Prop) : Prop :=
  match v with
  | .any => K .any
  | .bool b => K (.bool b)
  | .int k n => K (.int k n)
  | .str s => K (.str s)
  | .nilp => K .nilp
  | .nilf => K .nilf
  | .nili => K .nili
  | .nilm => K .nilm
  | .nils => K .nils
  | .agg cs => K (.agg cs)
  | .tup vs => K (.tup vs)
  | .sl α enc sz d xs => K (.sl α enc sz d xs)
  | .fz cs => K (.fz cs)
  | .fmap κ ν ek ev es => K (.fmap κ ν ek ev es)
  | .loc j off => K (.loc j off)
  | .rowf j ver => K (.rowf j ver)
  | .rloc j ver i off => K (.rloc j ver i off)
  | .mp j => K (.mp j)
  | .csl j off n cap => K (.csl j off n cap)
  | .fn f first captured => K (.fn f first captured)
  | .when b v => K (.when b v)
def headW (v : AV) (K : AV → Prop) : Prop :=
  headA v fun v => match v with
    | .when b v => headA v fun v => K (.when b v)
    | v => K v
theorem headA_spec {v : AV} {K : AV → Prop} (h : headA v K) : K v := by
  cases v <;> exact h
theorem headA_intro {v : AV} {K : AV → Prop} (h : K v) : headA v K := by
  cases v <;> exact h
theorem headW_spec {v : AV} {K : AV → Prop} (h : headW v K) : K v := by
  have h := headA_spec (K := fun v => match v with
    | .when b v => headA v fun v => K (.when b v)
    | v => K v) h
  split at h
  · exact headA_spec (K := fun v => K (.when _ v)) h
  · exact h
/-- The cells of a value of a type. -/
def flat (t : TI) (v : AV) (K : List AV → Prop) : Prop :=
  match t.k.agg with
  | true => match v with
    | .agg cs => K cs
    | _ => False
  | false => headA v fun v => v.one = true ∧ K [v]

def wrapAV (t : TI) (l : List AV) (K : AV → Prop) : Prop :=
  match t.k.agg with
  | true => K (.agg l)
  | false => match l with
    | [c] => K c
    | _ => False

/-- The list's cells are reckoned one by one. -/
def copyL : List AV → (List AV → Prop) → Prop
  | [], K => K []
  | c :: cs, K => copyL cs fun l => K (c :: l)
theorem copyL_spec : ∀ {l : List AV} {K : List AV → Prop}, copyL l K → K l
  | [], K, h => h
  | c :: cs, K, h => copyL_spec (l := cs) h

/-- cells laid over others, from a place on -/
def splice : List AV → Nat → List AV → (List AV → Prop) → Prop
  | cs, 0, [], K => K cs
  | _ :: cs, 0, v :: vs, K => splice cs 0 vs fun l => K (v :: l)
  | [], 0, _ :: _, _ => False
  | c :: cs, n + 1, vs, K => splice cs n vs fun l => K (c :: l)
  | [], _ + 1, _, _ => False

def constAV : Value → AV
  | .bool b => .bool b
  | .int k n => .int k n
  | .string s => .str s
  | .pointer none => .nilp
  | .slice none 0 0 => .nils
  | .map none => .nilm
  | .nilFunc => .nilf
  | .nilIface => .nili
  | _ => .any

def evalAV (fr : List AV) : Operand → AV
  | .tmp t => fr.getD t .any
  | .const v => constAV v
  | .global _ => .any
  | .func f => .fn (.func f) [] []

def bat (s : ByteArray) (i : Nat) : Int := if h : i < s.size then ((s[i]'h).toNat : Int) else 0

def strLt (a b : ByteArray) : Bool := Op.bytesLess a.toList b.toList

def isPtr : AV → Bool
  | .fz _ | .loc _ _ | .rloc _ _ _ _ => true
  | _ => false

/-- Equality of bools, of pointers and functions with nil. -/
def eqAV (k : TK) (x y : AV) (K : Bool → Prop) : Prop :=
  match k with
  | .bool => match x with
    | .bool a => match y with
      | .bool b => K (a == b)
      | _ => False
    | _ => False
  | .ptr _ => match x with
    | .nilp => match y with
      | .nilp => K true
      | y => isPtr y = true ∧ K false
    | x => match y with
      | .nilp => isPtr x = true ∧ K false
      | _ => False
  | .func => match x with
    | .nilf => match y with
      | .nilf => K true
      | .fn _ _ _ => K false
      | _ => False
    | .fn _ _ _ => match y with
      | .nilf => K false
      | _ => False
    | _ => False
  | _ => False

def binInt (op : BinOp) (k : IntKind) (a b : Int) (g : Option Bool) (K : AV → Prop) : Prop :=
  match op with
  | .add => ∃ r, ob g (k.wrap (a + b) = r) ∧ K (.int k r)
  | .sub => ∃ r, ob g (k.wrap (a - b) = r) ∧ K (.int k r)
  | .mul => ∃ r, ob g (k.wrap (a * b) = r) ∧ K (.int k r)
  | .quo => ob g (b ≠ 0) ∧ ∃ r, ob g (k.wrap (a.tdiv b) = r) ∧ K (.int k r)
  | .rem => ob g (b ≠ 0) ∧ ∃ r, ob g (a.tmod b = r) ∧ K (.int k r)
  | .and => ∃ r, ob g (k.wrap (BitVec.ofInt k.bits a &&& BitVec.ofInt k.bits b).toNat = r) ∧ K (.int k r)
  | .or => ∃ r, ob g (k.wrap (BitVec.ofInt k.bits a ||| BitVec.ofInt k.bits b).toNat = r) ∧ K (.int k r)
  | .xor => ∃ r, ob g (k.wrap (BitVec.ofInt k.bits a ^^^ BitVec.ofInt k.bits b).toNat = r) ∧ K (.int k r)
  | .andNot => ∃ r, ob g (k.wrap (BitVec.ofInt k.bits a &&& ~~~ BitVec.ofInt k.bits b).toNat = r) ∧ K (.int k r)
  | .eql => K (.bool (decide (a = b)))
  | .neq => K (.bool (!decide (a = b)))
  | .lss => K (.bool (decide (a < b)))
  | .leq => K (.bool (decide (a ≤ b)))
  | .gtr => K (.bool (decide (b < a)))
  | .geq => K (.bool (decide (b ≤ a)))
  | _ => False

def binStr (op : BinOp) (a b : ByteArray) (g : Option Bool) (K : AV → Prop) : Prop :=
  match op with
  | .add => ob g (((a.size + b.size : Nat) : Int) ≤ 9223372036854775807) ∧ K (.str (a ++ b))
  | .eql => K (.bool (decide (a = b)))
  | .neq => K (.bool (!decide (a = b)))
  | .lss => K (.bool (strLt a b))
  | .leq => K (.bool (strLt a b || decide (a = b)))
  | .gtr => K (.bool (!(strLt a b || decide (a = b))))
  | .geq => K (.bool (!strLt a b))
  | _ => False

/-- Two aggregates of a type are held against each other. -/
def EqTo (P : Program) (t : Nat) (xs ys : List AV) (r : Bool) : Prop :=
  ∀ (w : World) (S S' : Nat → Prop) (vx vy : Value) (x y : Operand), VR w S [] (.agg xs) vx → VR w S' [] (.agg ys) vy →
    (do eqGuard .eql t x y vx vy; binOp .eql t vx vy : Sem Value).run P w = .ok (.bool r) w ∧ (do eqGuard .neq t x y vx vy; binOp .neq t vx vy : Sem Value).run P w = .ok (.bool (!r)) w

def binE (P : Program) (T : Nat → TI) (op : BinOp) (t : Nat) (x y : AV) (g : Option Bool) (K : AV → Prop) : Prop :=
  match x with
  | .int k a => match y with
    | .int k' b => match op with
      | .shl => ob g (0 ≤ b) ∧ ∃ r, ob g (k.wrap (a * 2 ^ min b.toNat k.bits) = r) ∧ K (.int k r)
      | .shr => ob g (0 ≤ b) ∧ ∃ r, ob g (a.fdiv (2 ^ min b.toNat k.bits) = r) ∧ K (.int k r)
      | op => k = k' ∧ binInt op k a b g K
    | _ => False
  | .str a => match y with
    | .str b => binStr op a b g K
    | _ => False
  | .agg xs => match y with
    | .agg ys => match op with
      | .eql => AV.closed (.agg xs) = true ∧ AV.closed (.agg ys) = true ∧ ∃ r : Bool, ob g (EqTo P t xs ys r) ∧ K (.bool r)
      | .neq => AV.closed (.agg xs) = true ∧ AV.closed (.agg ys) = true ∧ ∃ r : Bool, ob g (EqTo P t xs ys r) ∧ K (.bool (!r))
      | _ => False
    | _ => False
  | x => match op with
    | .eql => eqAV (T t).k x y fun b => K (.bool b)
    | .neq => eqAV (T t).k x y fun b => K (.bool (!b))
    | _ => False

/-! ### Contracts -/
/-- Function f is called (with a Go body, or as one of the model's own). -/
def Inv (P : Program) (f : FuncId) (args : Array Value) (w : World) (R : Value → World → Prop) : Prop :=
  ((callFunc f args).run P w = .ok (.enter f args) w ∧ Calls P f args w fun e w' => ∃ v, e = .returned v ∧ R v w') ∨
  (∃ v w', (callFunc f args).run P w = .ok (.value v) w' ∧ R v w') ∨
  (∃ row as w', (callFunc f args).run P w = .ok (.row row as) w' ∧ Rows P row as w' R)

/-- The contract of a function that only computes: values to a value. -/
def Spec0 (P : Program) (f : FuncId) (as : List AV) (r : AV) : Prop :=
  ∀ (w : World) (S : Nat → Prop) (vs : List Value), (∀ b, S b → b < w.heap.size) → as.length = vs.length → (∀ (j : Nat) c v, as[j]? = some c → vs[j]? = some v → VR w S [] c v) →
    Inv P f ⟨vs⟩ w fun v w' => FrameW (fun _ => False) w w' ∧ VR w' S [] r v

/-- The references to objects renumbered. -/
def AV.ren (ρ : Nat → Nat) : AV → AV
  | .loc j o => .loc (ρ j) o
  | .rowf j v => .rowf (ρ j) v
  | .rloc j v i o => .rloc (ρ j) v i o
  | .mp j => .mp (ρ j)
  | .csl j o n c => .csl (ρ j) o n c
  | .agg cs => .agg (rens ρ cs)
  | .tup cs => .tup (rens ρ cs)
  | .fn f as cs => .fn f (rens ρ as) (rens ρ cs)
  | .when b v => .when b (AV.ren ρ v)
  | v => v
where
  rens (ρ : Nat → Nat) : List AV → List AV
  | [] => []
  | c :: cs => AV.ren ρ c :: rens ρ cs

def Obj.ren (ρ : Nat → Nat) : Obj → Obj
  | .cells cs => .cells (AV.ren.rens ρ cs)
  | o => o

/-- The contract of a function that is handed references to the objects os, and leaves them (and new ones behind them) as os'. -/
def Spec (P : Program) (f : FuncId) (as : List AV) (os : List Obj) (r : AV) (os' : List Obj) : Prop :=
  os.length ≤ os'.length ∧ ∀ (w : World) (X : Nat → Prop) (E : List Slot) (vs : List Value), HR w X os.length E os → as.length = vs.length → (∀ (j : Nat) c v, as[j]? = some c → vs[j]? = some v → VR w (SX X E os) E c v) →
    Inv P f ⟨vs⟩ w fun v w' => ∃ E', ExtE E E' ∧ HR w' X os.length E' os' ∧ FrameW (own E os) w w' ∧ (∀ b, b < w.heap.size → own E' os' b → own E os b) ∧ VR w' (SX X E' os') E' r v

/-! ### Operations -/
/-- The type is in the table. -/
def known (t : TI) (p : Prop) : Prop :=
  match t.k with
  | .other => False
  | _ => p

def strips (g : Option Bool) : List AV → (List AV → Prop) → Prop
  | [], K => K []
  | c :: cs, K => strip g c fun c' => strips g cs fun cs' => K (c' :: cs')

def closedAll (cs : List AV) : Prop := AV.closed.closeds cs = true

/-- A value is read at a pointer. -/
def loadE (t : TI) (p : AV) (hp : List Obj) (g : Option Bool) (K : AV → List Nat → Prop) : Prop :=
  match p with
  | .fz cs => cut cs t.size fun l => wrapAV t l fun v => K v []
  | .loc j off => match hp[j]? with
    | some (.cells cs) => skip cs off fun cs' => cut cs' t.size fun l => wrapAV t l fun v => K v [j]
    | _ => False
  | .rloc j ver i off => match hp[j]? with
    | some (.row _ enc _ d xs ver') => ob g (ver = ver' ∧ i < xs.length) ∧ skip (enc (xs.getD i d)) off fun cs' => cut cs' t.size fun l => wrapAV t l fun v => K v [j]
    | _ => False
  | _ => False

def storeE (t : TI) (p v : AV) (hp : List Obj) (K : List (Nat × Obj) → List Nat → Prop) : Prop :=
  flat t v fun vs => ones vs = true ∧ vs.length = t.size ∧
  match p with
  | .loc j off => match hp[j]? with
    | some (.cells cs) => splice cs off vs fun cs' => K [(j, .cells cs')] [j]
    | _ => False
  | .rloc j ver i off => match hp[j]? with
    | some (.row α enc s d xs ver') => (ver = ver' ∧ i < xs.length) ∧ closedAll vs ∧ splice (enc (xs.getD i d)) off vs fun cs' => ∃ (β : Type) (e' : β → List AV) (d' : β) (zs : List β), zs.map e' = (xs.map enc).set i cs' ∧ K [(j, .row β e' s d' zs ver)] [j]
    | _ => False
  | _ => False

def fieldOff (t : TI) (i : Nat) : Option (Nat × Nat) :=
  match t.k with
  | .struct fs => fs[i]?
  | _ => none

/-- The place of a part behind an address. -/
def offE (p : AV) (off : Nat) (K : AV → Prop) : Prop :=
  match p with
  | .fz cs => skip cs off fun cs' => K (.fz cs')
  | .loc j o => K (.loc j (o + off))
  | .rloc j v i o => K (.rloc j v i (o + off))
  | _ => False

def indexAddrE (T : Nat → TI) (t : Nat) (p : AV) (i : Int) (hp : List Obj) (g : Option Bool) (K : AV → List Nat → Prop) : Prop :=
  match (T t).k with
  | .slice e => known (T e) <| match p with
    | .sl _ enc sz d xs => sz = (T e).size ∧ ob g (0 ≤ i ∧ i < xs.length) ∧ K (.fz (enc (xs.getD i.toNat d))) []
    | .rowf j ver => match hp[j]? with
      | some (.row _ _ sz _ xs ver') => sz = (T e).size ∧ ob g (ver = ver' ∧ 0 ≤ i ∧ i < xs.length) ∧ K (.rloc j ver i.toNat 0) [j]
      | _ => False
    | _ => False
  | .array n e => known (T e) <| ∃ m : Nat, ob g (i = m) ∧ ob g (m < n) ∧ offE p (m * (T e).size) fun q => K q []
  | _ => False

def indexE (T : Nat → TI) (t : Nat) (x : AV) (i : Int) (g : Option Bool) (K : AV → Prop) : Prop :=
  match x with
  | .str s => match (T t).k with
    | .str => ob g (0 ≤ i ∧ i < s.size) ∧ K (.int .u8 (bat s i.toNat))
    | _ => False
  | .agg cs => match (T t).k with
    | .array n e => known (T e) <| ∃ m : Nat, ob g (i = m) ∧ ob g (m < n) ∧ skip cs (m * (T e).size) fun cs' => cut cs' (T e).size fun l => wrapAV (T e) l K
    | _ => False
  | _ => False

def buildE (T : Nat → TI) (place : Nat → Option (Nat × Nat)) : List AV → List (Nat × AV) → (List AV → Prop) → Prop
  | cs, [], K => K cs
  | cs, (i, v) :: rest, K => match place i with
    | none => False
    | some (t, off) => flat (T t) v fun vs => vs.length = (T t).size ∧ splice cs off vs fun cs' => buildE T place cs' rest K

/-- All field types are in the table. -/
def allKnown (T : Nat → TI) : List (Nat × Nat) → Prop → Prop
  | [], p => p
  | (t, _) :: fs, p => known (T t) (allKnown T fs p)
def partsKnown (T : Nat → TI) (t : TI) (p : Prop) : Prop :=
  match t.k with
  | .struct fs => allKnown T fs p
  | .array _ e => known (T e) p
  | _ => False

def placeOf (T : Nat → TI) (t : TI) (i : Nat) : Option (Nat × Nat) :=
  match t.k with
  | .struct fs => fs[i]?
  | .array n e => match decide (i < n) with
    | true => some (e, i * (T e).size)
    | false => none
  | _ => none

def repeatL (zero : List AV) : Nat → List AV
  | 0 => []
  | n + 1 => zero ++ repeatL zero n

/-- cells in groups of a size -/
def groups (sz : Nat) : Nat → List AV → (List (List AV) → Prop) → Prop
  | 0, _, K => K []
  | n + 1, cs, K => cut cs sz fun l => skip cs sz fun cs' => groups sz n cs' fun ls => K (l :: ls)

def parts (ev : Operand → AV) (ps : List (Nat × Operand)) : List (Nat × AV) := ps.map fun p => (p.1, ev p.2)

def stripParts (g : Option Bool) : List (Nat × AV) → (List (Nat × AV) → Prop) → Prop
  | [], K => K []
  | (i, v) :: rest, K => strip g v fun v' => stripParts g rest fun r => K ((i, v') :: r)

def lenE (k : TK) (x : AV) (hp : List Obj) (g : Option Bool) (K : Int → List Nat → Prop) : Prop :=
  match k with
  | .str => match x with
    | .str s => K s.size []
    | _ => False
  | .slice _ => match x with
    | .sl _ _ _ _ xs => K xs.length []
    | .nils => K 0 []
    | .rowf j ver => match hp[j]? with
      | some (.row _ _ _ _ xs ver') => ob g (ver = ver') ∧ K xs.length [j]
      | _ => False
    | _ => False
  | .array n _ => K n []
  | .map _ _ => match x with
    | .mp j => match hp[j]? with
      | some (.map _ _ _ _ es) => K es.length [j]
      | _ => False
    | .fmap _ _ _ _ es => K es.length []
    | .nilm => K 0 []
    | _ => False
  | _ => False

def boolOr (g : Option Bool) (v : AV) (hyp : Prop) (K : Bool → Prop) : Prop :=
  match v with
  | .bool x => K x
  | .when b (.bool x) => ob g (hyp → b = true) ∧ K x
  | _ => False

def pickE (g : Option Bool) (c a b : AV) (K : AV → Prop) : Prop :=
  match c with
  | .bool c => boolOr g a (c = true) fun x => boolOr g b (c = false) fun y => K (.bool (bif c then x else y))
  | .when d (.bool c) => ob g (d = true) ∧ boolOr g a (c = true) fun x => boolOr g b (c = false) fun y => K (.bool (bif c then x else y))
  | _ => False

/-- Bytes' numbers. -/
def numsE : List AV → (List Int → Prop) → Prop
  | [], K => K []
  | c :: cs, K => match c with
    | .int .u8 n => numsE cs fun ns => K (n :: ns)
    | _ => False
/-- A type is a slice of bytes. -/
def byteSl (T : Nat → TI) (src : Nat) (p : Prop) : Prop :=
  match (T src).k with
  | .slice e => match (T e).k with
    | .int .u8 => p
    | _ => False
  | _ => False
def convE (T : Nat → TI) (src dst : Nat) (x : AV) (hp : List Obj) (g : Option Bool) (K : AV → List Nat → Prop) : Prop :=
  match (T dst).k with
  | .int k => match x with
    | .int _ n => ∃ r, ob g (k.wrap n = r) ∧ K (.int k r) []
    | _ => False
  | .str => match x with
    | .str s => K (.str s) []
    | .nils => byteSl T src <| K (.str ⟨#[]⟩) []
    | .csl j off n _ => byteSl T src <| match hp[j]? with
      | some (.cells cs) => skip cs off fun cs' => cut cs' n fun l => numsE l fun ns => K (.str (strOfNums ns)) [j]
      | _ => False
    | .sl _ enc sz _ xs => byteSl T src <| Nat.beq sz 1 = true ∧ ∃ ns : List Int, xs.map enc = ns.map (fun n => [.int .u8 n]) ∧ K (.str (strOfNums ns)) []
    | .rowf j ver => byteSl T src <| match hp[j]? with
      | some (.row _ enc sz _ xs ver') => ob g (ver = ver') ∧ Nat.beq sz 1 = true ∧ ∃ ns : List Int, xs.map enc = ns.map (fun n => [.int .u8 n]) ∧ K (.str (strOfNums ns)) [j]
      | _ => False
    | _ => False
  | _ => False

def unE (op : UnOp) (x : AV) (g : Option Bool) (K : AV → Prop) : Prop :=
  match op with
  | .not => match x with
    | .bool b => K (.bool (!b))
    | _ => False
  | .neg => match x with
    | .int k n => ∃ r, ob g (k.wrap (0 - n) = r) ∧ K (.int k r)
    | _ => False
  | _ => False

/-! ### Slices -/
/-- What a slice has. -/
structure Cont where
  α : Type
  enc : α → List AV
  sz : Nat
  ys : List α
  rd : List Nat

def contE (ti : TI) (x : AV) (hp : List Obj) (g : Option Bool) (K : Cont → Prop) : Prop :=
  match x with
  | .sl α enc sz _ xs => K ⟨α, enc, sz, xs, []⟩
  | .nils => K ⟨ti.α, ti.enc, ti.size, [], []⟩
  | .rowf j ver => match hp[j]? with
    | some (.row α enc sz _ xs ver') => ob g (ver = ver') ∧ K ⟨α, enc, sz, xs, [j]⟩
    | _ => False
  | _ => False

/-- What is laid behind n0 others in a row. -/
def joinOk (ti : TI) (sz n0 : Nat) (c : Cont) : Prop :=
  (Nat.beq sz ti.size && Nat.beq c.sz sz && Nat.blt 0 sz) = true ∧ (∀ y ∈ c.ys, ones (c.enc y) = true) ∧ (n0 + c.ys.length ≤ 9223372036854775807 ∧ (n0 + c.ys.length) * ti.bytes ≤ 140737488355328)

def appendE (ti : TI) (s x : AV) (hp : List Obj) (n : Nat) (g : Option Bool) (K : AV → List (Nat × Obj) → List Nat → Prop) : Prop :=
  contE ti x hp g fun c => match s with
    | .nils => joinOk ti ti.size 0 c ∧ ∃ (β : Type) (e' : β → List AV) (d' : β) (zs : List β), zs.map e' = c.ys.map c.enc ∧ K (.rowf n 1) [(n, .row β e' ti.size d' zs 1)] c.rd
    | .rowf j ver => match hp[j]? with
      | some (.row α enc sz d xs ver') => ver = ver' ∧ joinOk ti sz xs.length c ∧ ∃ (β : Type) (e' : β → List AV) (d' : β) (zs : List β), zs.map e' = xs.map enc ++ c.ys.map c.enc ∧ K (.rowf j (ver + 1)) [(j, .row β e' sz d' zs (ver + 1)), (n, .dead)] (j :: c.rd)
      | _ => False
    | _ => False

def optE (ev : Operand → AV) (g : Option Bool) (dflt : Int) (x : Option Operand) (K : Int → Prop) : Prop :=
  match x with
  | none => K dflt
  | some x => strip g (ev x) fun v => match v with
    | .int _ n => K n
    | _ => False

def sliceE (T : Nat → TI) (t : Nat) (x : AV) (lo hi mx : Option Operand) (ev : Operand → AV) (hp : List Obj) (g : Option Bool) (K : AV → List Nat → Prop) : Prop :=
  match (T t).k with
  | .str => match x with
    | .str s => match mx with
      | none => optE ev g 0 lo fun l => optE ev g s.size hi fun h => ob g (0 ≤ l ∧ l ≤ h ∧ h ≤ s.size) ∧ K (.str (s.extract l.toNat h.toNat)) []
      | _ => False
    | _ => False
  | .array n e => known (T e) <| match x with
    | .loc j o => optE ev g 0 lo fun l => optE ev g n hi fun h => match mx with
      | none => ob g (0 ≤ l ∧ l ≤ h ∧ h ≤ n) ∧ match decide (l = n) with
        | true => K .nils []
        | false => K (.csl j (o + l.toNat * (T e).size) (h.toNat - l.toNat) (n - l.toNat)) []
      | mx => hi.isSome = true ∧ optE ev g 0 mx fun m => ob g (0 ≤ l ∧ l ≤ h ∧ h ≤ m ∧ m ≤ n) ∧ match decide (m = l) with
        | true => K .nils []
        | false => K (.csl j (o + l.toNat * (T e).size) (h.toNat - l.toNat) (m.toNat - l.toNat)) []
    | _ => False
  | .slice e => known (T e) <| match x with
    | .sl α enc sz d xs => Nat.beq sz (T e).size = true ∧ optE ev g 0 lo fun l => optE ev g xs.length hi fun h => match mx with
      | none => ob g (0 ≤ l ∧ l ≤ h ∧ h ≤ xs.length) ∧ K (.sl α enc sz d ((xs.drop l.toNat).take (h.toNat - l.toNat))) []
      | mx => hi.isSome = true ∧ optE ev g 0 mx fun m => ob g (0 ≤ l ∧ l ≤ h ∧ h ≤ m ∧ m ≤ xs.length) ∧ match decide (m = l) with
        | true => K .nils []
        | false => K (.sl α enc sz d ((xs.drop l.toNat).take (h.toNat - l.toNat))) []
    | .nils => optE ev g 0 lo fun l => optE ev g 0 hi fun h => match mx with
      | none => ob g (l = 0 ∧ h = 0) ∧ K .nils []
      | mx => hi.isSome = true ∧ optE ev g 0 mx fun m => ob g (l = 0 ∧ h = 0 ∧ m = 0) ∧ K .nils []
    | .rowf j ver => match hp[j]? with
      | some (.row _ _ _ _ xs ver') => optE ev g 0 lo fun l => optE ev g xs.length hi fun h => match mx with
        | none => ob g (ver = ver' ∧ l = 0 ∧ h = xs.length) ∧ K (.rowf j ver) [j]
        | mx => hi.isSome = true ∧ optE ev g 0 mx fun m => ob g (ver = ver' ∧ l = 0 ∧ h = 0 ∧ m = 0) ∧ K .nils [j]
      | _ => False
    | _ => False
  | _ => False

def makeE (ti : TI) (l c : AV) (n : Nat) (g : Option Bool) (K : AV → List (Nat × Obj) → List Nat → Prop) : Prop :=
  match l with
  | .int _ l => match c with
    | .int _ c => ob g (0 ≤ l ∧ l ≤ c ∧ c * ti.bytes ≤ 281474976710656 ∧ c ≤ 9223372036854775807) ∧ closedAll ti.zero ∧ ∃ (β : Type) (e' : β → List AV) (d' : β) (zs : List β), zs.map e' = List.replicate l.toNat ti.zero ∧ K (.rowf n 0) [(n, .row β e' ti.size d' zs 0)] []
    | _ => False
  | _ => False

def minE (max : Bool) (x y : AV) (K : AV → Prop) : Prop :=
  match x with
  | .int k a => match y with
    | .int _ b => match max with
      | true => K (.int k (if b > a then b else a))
      | false => K (.int k (if b < a then b else a))
    | _ => False
  | _ => False

/-- How many objects an operation makes. -/
def news : Op → Nat
  | .alloc _ | .box _ _ | .buildSlice _ _ _ | .makeSlice _ _ _ => 1
  | .call c => match c.callee with
    | .builtin .append => 1
    | _ => 0
  | _ => 0

def opEff (P : Program) (T : Nat → TI) (g : Option Bool) (op : Op) (ev : Operand → AV) (hp : List Obj) (n : Nat) (K : AV → List (Nat × Obj) → List Nat → Prop) : Prop :=
  match op with
  | .move x => K (ev x) [] []
  | .assign x => K (ev x) [] []
  | .pick c a b => pickE g (ev c) (ev a) (ev b) fun v => K v [] []
  | .alloc t => known (T t) <| copyL (T t).zero fun z => K (.loc n 0) [(n, .cells z)] []
  | .box t x => known (T t) <| strip g (ev x) fun v => flat (T t) v fun cs => K (.loc n 0) [(n, .cells cs)] []
  | .build t ps => known (T t) <| partsKnown T (T t) <| stripParts g (parts ev ps.toList) fun ps' => copyL (T t).zero fun z => buildE T (placeOf T (T t)) z ps' fun cs => K (.agg cs) [] []
  | .buildSlice t len ps => match (T t).k with
    | .slice e => known (T e) <| ob g (len * (T e).size ≤ 16777216 ∧ len ≤ 16777216) ∧ stripParts g (parts ev ps.toList) fun ps' => buildE T (fun i => match decide (i < len) with | true => some (e, i * (T e).size) | false => none) (repeatL (T e).zero len) ps' fun cs =>
        closedAll cs ∧ groups (T e).size len cs fun ls => ∃ (β : Type) (e' : β → List AV) (d' : β) (xs : List β), xs.map e' = ls ∧ K (.rowf n 0) [(n, .row β e' (T e).size d' xs 0)] []
    | _ => False
  | .load t a => known (T t) <| strip g (ev a) fun p => loadE (T t) p hp g fun v rd => K v [] rd
  | .store t a x => known (T t) <| strip g (ev a) fun p => strip g (ev x) fun v => storeE (T t) p v hp fun wr rd => K .any wr rd
  | .nilCheck x => strip g (ev x) fun v => match v with
    | .fz cs => K (.fz cs) [] []
    | .loc j o => K (.loc j o) [] []
    | .rloc j v i o => K (.rloc j v i o) [] []
    | _ => False
  | .binOp op t x y _ => strip g (ev x) fun a => strip g (ev y) fun b => binE P T op t a b g fun v => K v [] []
  | .unOp op _ x => strip g (ev x) fun a => unE op a g fun v => K v [] []
  | .convert src dst x => known (T src) <| strip g (ev x) fun a => convE T src dst a hp g fun v rd => K v [] rd
  | .makeFunc fn first captured => strips g (first.toList.map ev) fun as => strips g (captured.toList.map ev) fun cs => K (.fn fn as cs) [] []
  | .fieldAddr t x i => strip g (ev x) fun p => match fieldOff (T t) i with
    | some (ft, off) => known (T ft) <| match (T ft).size with
      | 0 => False
      | _ + 1 => offE p off fun q => K q [] []
    | none => False
  | .field t x i => strip g (ev x) fun v => match v with
    | .agg cs => match fieldOff (T t) i with
      | some (ft, off) => skip cs off fun cs' => known (T ft) <| cut cs' (T ft).size fun l => wrapAV (T ft) l fun v => K v [] []
      | none => False
    | _ => False
  | .indexAddr t x i => strip g (ev x) fun p => strip g (ev i) fun iv => match iv with
    | .int _ i => indexAddrE T t p i hp g fun v rd => K v [] rd
    | _ => False
  | .index t x i => strip g (ev x) fun p => strip g (ev i) fun iv => match iv with
    | .int _ i => indexE T t p i g fun v => K v [] []
    | _ => False
  | .slice t x lo hi mx => strip g (ev x) fun p => sliceE T t p lo hi mx ev hp g fun v rd => K v [] rd
  | .makeSlice t l c => match (T t).k with
    | .slice e => known (T e) <| strip g (ev l) fun l => strip g (ev c) fun c => makeE (T e) l c n g K
    | _ => False
  | .extract x i => strip g (ev x) fun v => match v with
    | .tup vs => match vs[i]? with
      | some v => K v [] []
      | none => False
    | _ => False
  | .call c => match c.callee with
    | .builtin .len => match c.args.toList with
      | [x] => match c.argTypes.toList with
        | [t] => strip g (ev x) fun v => lenE (T t).k v hp g fun m rd => K (.int .i64 m) [] rd
        | _ => False
      | _ => False
    | .builtin .append => match c.args.toList with
      | [s, x] => match c.argTypes.toList with
        | [t, t'] => match (T t).k with
          | .slice e => known (T e) <| Nat.beq t t' = true ∧ strip g (ev s) fun s => strip g (ev x) fun x => appendE (T e) s x hp n g K
          | _ => False
        | _ => False
      | _ => False
    | .builtin .min => match c.args.toList with
      | [x, y] => strip g (ev x) fun x => strip g (ev y) fun y => minE false x y fun v => K v [] []
      | _ => False
    | .builtin .max => match c.args.toList with
      | [x, y] => strip g (ev x) fun x => strip g (ev y) fun y => minE true x y fun v => K v [] []
      | _ => False
    | .value f => strip g (ev f) fun fv => match fv with
      | .fn (.func k) first captured => strips g (c.args.toList.map ev) fun as => closedAll (first ++ as ++ captured) ∧ ∃ r, ob g (Spec0 P k (first ++ as ++ captured) r) ∧ K r [] []
      | _ => False
    | _ => False
  | _ => False
end Go.Mir
