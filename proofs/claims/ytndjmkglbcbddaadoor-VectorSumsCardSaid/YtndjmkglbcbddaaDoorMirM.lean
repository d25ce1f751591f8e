/- What an operation yields hangs on its operands and on the objects that it looks at, on nothing else. No condition. -/
import Derived.Test.YtndjmkglbcbddaaDoorMirL
set_option linter.unusedVariables false
namespace Go.Mir
universe u v

/-- A computation in continuations yields one outcome (one of those that it may). -/
def Reg {α : Type u} (F : (α → Prop) → Prop) : Prop := ∀ K, F K → ∃ x, K x ∧ ∀ K' : α → Prop, K' x → F K'

theorem Reg.ret {α : Type u} (x : α) : Reg (fun K => K x) := fun K h => ⟨x, h, fun _ h => h⟩
theorem Reg.bind {α : Type u} {β : Type v} {F : (α → Prop) → Prop} {G : α → (β → Prop) → Prop} (hF : Reg F) (hG : ∀ x, Reg (G x)) : Reg (fun K => F fun x => G x K) := by
  intro K h
  obtain ⟨x, h1, h2⟩ := hF _ h
  obtain ⟨y, h3, h4⟩ := hG x _ h1
  exact ⟨y, h3, fun K' hk => h2 _ (h4 K' hk)⟩
theorem Reg.and {α : Type u} {p : Prop} {F : (α → Prop) → Prop} (hF : Reg F) : Reg (fun K => p ∧ F K) := by
  intro K h
  obtain ⟨x, h1, h2⟩ := hF _ h.2
  exact ⟨x, h1, fun K' hk => ⟨h.1, h2 K' hk⟩⟩
theorem Reg.ex {α : Type u} {ι : Sort _} {F : ι → (α → Prop) → Prop} (hF : ∀ i, Reg (F i)) : Reg (fun K => ∃ i, F i K) := by
  rintro K ⟨i, h⟩
  obtain ⟨x, h1, h2⟩ := hF i _ h
  exact ⟨x, h1, fun K' hk => ⟨i, h2 K' hk⟩⟩
theorem Reg.false {α : Type u} : Reg (fun _ : α → Prop => False) := fun _ h => h.elim
theorem Reg.map {α : Type u} {β : Type v} {F : (α → Prop) → Prop} (hF : Reg F) (f : α → β) : Reg (fun K => F fun x => K (f x)) := hF.bind fun x => .ret (f x)

section
variable {T : Nat → TI} {g : Option Bool}
theorem strip_reg (v : AV) : Reg (strip g v) := by
  unfold strip
  split
  · exact .and (.ret _)
  · exact .ret _
theorem strips_reg : ∀ cs : List AV, Reg (strips g cs)
  | [] => .ret _
  | c :: cs => (strip_reg c).bind fun c' => (strips_reg cs).bind fun cs' => .ret _
theorem cut_reg : ∀ (l : List AV) (n : Nat), Reg (cut l n)
  | l, 0 => by cases l <;> exact .ret _
  | c :: cs, n + 1 => (cut_reg cs n).bind fun l => .ret _
  | [], _ + 1 => .false
theorem skip_reg : ∀ (l : List AV) (n : Nat), Reg (skip l n)
  | l, 0 => by cases l <;> exact .ret _
  | c :: cs, n + 1 => skip_reg cs n
  | [], _ + 1 => .false
theorem copyL_reg : ∀ (l : List AV), Reg (copyL l)
  | [] => .ret _
  | c :: cs => (copyL_reg cs).bind fun l => .ret _
theorem splice_reg : ∀ (cs : List AV) (n : Nat) (vs : List AV), Reg (splice cs n vs)
  | cs, 0, [] => by cases cs <;> exact .ret _
  | c :: cs, 0, v :: vs => (splice_reg cs 0 vs).bind fun l => .ret _
  | [], 0, _ :: _ => .false
  | c :: cs, n + 1, vs => by
    have := (splice_reg cs n vs).bind (G := fun l K => K (c :: l)) fun l => .ret _
    cases vs <;> exact this
  | [], _ + 1, vs => by cases vs <;> exact .false
theorem headA_reg (v : AV) : Reg (headA v) := fun K h => ⟨v, headA_spec h, fun K' hk => headA_intro hk⟩
theorem flat_reg (t : TI) (v : AV) : Reg (flat t v) := by
  unfold flat
  split
  · split
    · exact .ret _
    · exact .false
  · exact (headA_reg _).bind fun v => .and (.ret _)
theorem wrap_reg (t : TI) (l : List AV) : Reg (wrapAV t l) := by
  unfold wrapAV
  split
  · exact .ret _
  · split
    · exact .ret _
    · exact .false
theorem offE_reg (p : AV) (off : Nat) : Reg (offE p off) := by
  unfold offE
  split
  · exact (skip_reg _ _).bind fun _ => .ret _
  · exact .ret _
  · exact .ret _
  · exact .false
theorem known_reg {α : Type u} {t : TI} {F : (α → Prop) → Prop} (h : Reg F) : Reg (fun K => known t (F K)) := by
  unfold known
  split
  · exact .false
  · exact h
theorem boolOr_reg (v : AV) (hyp : Prop) : Reg (boolOr g v hyp) := by
  unfold boolOr
  split
  · exact .ret _
  · exact .and (.ret _)
  · exact .false
theorem pick_reg (c x y : AV) : Reg (pickE g c x y) := by
  unfold pickE
  split
  · exact (boolOr_reg x _).bind fun p => (boolOr_reg y _).bind fun q => .ret _
  · exact .and ((boolOr_reg x _).bind fun p => (boolOr_reg y _).bind fun q => .ret _)
  · exact .false
theorem binInt_reg (op : BinOp) (k : IntKind) (a b : Int) : Reg (binInt op k a b g) := by
  unfold binInt
  split <;> first | exact .ex fun r => .and (.ret _) | exact .and (.ex fun r => .and (.ret _)) | exact .ret _ | exact .false
theorem binStr_reg (op : BinOp) (a b : ByteArray) : Reg (binStr op a b g) := by
  unfold binStr
  split <;> first | exact .and (.ret _) | exact .ret _ | exact .false
theorem eqAV_reg (k : TK) (x y : AV) (f : Bool → AV) : Reg (fun K => eqAV k x y fun b => K (f b)) := by
  unfold eqAV
  repeat' split
  all_goals first | exact .ret _ | exact .and (.ret _) | exact .false
theorem binE_reg (P : Program) (op : BinOp) (t : Nat) (x y : AV) : Reg (binE P T op t x y g) := by
  unfold binE
  split
  · split
    · split
      · exact .and (.ex fun r => .and (.ret _))
      · exact .and (.ex fun r => .and (.ret _))
      · exact .and (binInt_reg _ _ _ _)
    · exact .false
  · split
    · exact binStr_reg _ _ _
    · exact .false
  · split
    · split
      · exact .and (.and (.ex fun r => .and (.ret _)))
      · exact .and (.and (.ex fun r => .and (.ret _)))
      · exact .false
    · exact .false
  · split
    · exact eqAV_reg _ _ _ _
    · exact eqAV_reg _ _ _ _
    · exact .false
theorem unE_reg (op : UnOp) (x : AV) : Reg (unE op x g) := by
  unfold unE
  repeat' split
  all_goals first | exact .ret _ | exact .ex fun r => .and (.ret _) | exact .false
theorem nums_reg : ∀ l : List AV, Reg (numsE l)
  | [] => .ret _
  | c :: cs => by
    cases c with
    | int k n => cases k <;> first | exact (nums_reg cs).bind fun ns => .ret (n :: ns) | exact .false
    | _ => exact .false
theorem byteSl_reg {α : Type u} {src : Nat} {F : (α → Prop) → Prop} (h : Reg F) : Reg (fun K => byteSl T src (F K)) := by
  unfold byteSl
  split
  · split
    · exact h
    · exact .false
  · exact .false
theorem indexE_reg (t : Nat) (x : AV) (i : Int) : Reg (indexE T t x i g) := by
  unfold indexE
  repeat' split
  all_goals first
    | exact .and (.ret _)
    | exact known_reg (.ex fun m => .and (.and ((skip_reg _ _).bind fun _ => (cut_reg _ _).bind fun _ => wrap_reg _ _)))
    | exact .false
theorem stripParts_reg : ∀ ps : List (Nat × AV), Reg (stripParts g ps)
  | [] => .ret _
  | (i, v) :: ps => (strip_reg v).bind fun v' => (stripParts_reg ps).bind fun r => .ret _
theorem buildE_reg (place : Nat → Option (Nat × Nat)) : ∀ (cs : List AV) (ps : List (Nat × AV)), Reg (buildE T place cs ps)
  | cs, [] => .ret _
  | cs, (i, v) :: rest => by
    show Reg fun K => buildE T place cs ((i, v) :: rest) K
    simp only [buildE]
    split
    · exact .false
    · exact (flat_reg _ _).bind fun vs => .and ((splice_reg _ _ _).bind fun cs' => buildE_reg place cs' rest)
theorem groups_reg (sz : Nat) : ∀ (n : Nat) (cs : List AV), Reg (groups sz n cs)
  | 0, _ => .ret _
  | n + 1, cs => (cut_reg cs sz).bind fun l => (skip_reg cs sz).bind fun cs' => (groups_reg sz n cs').bind fun ls => .ret _
theorem allKnown_reg {α : Type u} {F : (α → Prop) → Prop} (h : Reg F) : ∀ fs : List (Nat × Nat), Reg (fun K => allKnown T fs (F K))
  | [] => h
  | (t, _) :: fs => known_reg (allKnown_reg h fs)
theorem partsKnown_reg {α : Type u} {t : TI} {F : (α → Prop) → Prop} (h : Reg F) : Reg (fun K => partsKnown T t (F K)) := by
  unfold partsKnown
  split
  · exact allKnown_reg h _
  · exact known_reg h
  · exact .false
end

/-- The outcome of an operation. -/
structure Eff : Type 1 where
  val : AV
  wr : List (Nat × Obj)
  rd : List Nat

/-- One outcome, which other objects (but those that it looked at) don't turn. -/
def Loc (F : List Obj → (Eff → Prop) → Prop) : Prop :=
  ∀ hp K, F hp K → ∃ x, K x ∧ ∀ hp', (∀ j ∈ x.rd, hp'[j]? = hp[j]?) → ∀ K' : Eff → Prop, K' x → F hp' K'
theorem Loc.of_reg {F : (Eff → Prop) → Prop} (h : Reg F) : Loc (fun _ => F) := fun hp K hk =>
  let ⟨x, h1, h2⟩ := h K hk; ⟨x, h1, fun _ _ K' hk' => h2 K' hk'⟩
theorem Loc.bind {α : Type u} {F : (α → Prop) → Prop} {G : α → List Obj → (Eff → Prop) → Prop} (hF : Reg F) (hG : ∀ x, Loc (G x)) : Loc (fun hp K => F fun x => G x hp K) := by
  intro hp K h
  obtain ⟨x, h1, h2⟩ := hF _ h
  obtain ⟨y, h3, h4⟩ := hG x _ _ h1
  exact ⟨y, h3, fun hp' he K' hk => h2 _ (h4 hp' he K' hk)⟩
theorem Loc.and {p : Prop} {F : List Obj → (Eff → Prop) → Prop} (hF : Loc F) : Loc (fun hp K => p ∧ F hp K) := by
  intro hp K h
  obtain ⟨x, h1, h2⟩ := hF _ _ h.2
  exact ⟨x, h1, fun hp' he K' hk => ⟨h.1, h2 hp' he K' hk⟩⟩
theorem Loc.ex {ι : Sort _} {F : ι → List Obj → (Eff → Prop) → Prop} (hF : ∀ i, Loc (F i)) : Loc (fun hp K => ∃ i, F i hp K) := by
  rintro hp K ⟨i, h⟩
  obtain ⟨x, h1, h2⟩ := hF i _ _ h
  exact ⟨x, h1, fun hp' he K' hk => ⟨i, h2 hp' he K' hk⟩⟩
theorem Loc.false : Loc (fun _ _ => False) := fun _ _ h => h.elim
theorem Loc.ret (x : Eff) : Loc (fun _ K => K x) := .of_reg (.ret x)
theorem Loc.known {t : TI} {F : List Obj → (Eff → Prop) → Prop} (h : Loc F) : Loc (fun hp K => Go.Mir.known t (F hp K)) := by
  unfold Go.Mir.known
  split
  · exact .false
  · exact h
/-- An object is looked at: every outcome says so. -/
theorem Loc.look {j : Nat} {G : Option Obj → (Eff → Prop) → Prop} (hG : ∀ o, Reg (G o)) (hj : ∀ o K, G o K → G o fun x => K x ∧ j ∈ x.rd) : Loc (fun hp K => G hp[j]? K) := by
  intro hp K h
  obtain ⟨x, ⟨h1, hm⟩, h2⟩ := hG _ _ (hj _ K h)
  exact ⟨x, h1, fun hp' he K' hk => by show G hp'[j]? K'; rw [he j hm]; exact h2 K' hk⟩

theorem Reg.keep {α : Type u} {F : (α → Prop) → Prop} (hF : Reg F) {K : α → Prop} (h : F K) {p : α → Prop} (hp : ∀ x, p x) : F fun x => K x ∧ p x := by
  obtain ⟨x, h1, h2⟩ := hF K h
  exact h2 _ ⟨h1, hp x⟩
end Go.Mir
