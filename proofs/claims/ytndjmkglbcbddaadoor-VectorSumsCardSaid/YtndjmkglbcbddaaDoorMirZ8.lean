/- Runs without symbols in pieces: calls whose answer is known already. No condition. -/
import Derived.Test.YtndjmkglbcbddaaDoorMirZ7
set_option linter.unusedVariables false
set_option maxRecDepth 10000
namespace Go.Mir
noncomputable section

def intEq (a b : Int) : Bool := match a with
  | .ofNat m => match b with
    | .ofNat n => Nat.beq m n
    | _ => false
  | .negSucc m => match b with
    | .negSucc n => Nat.beq m n
    | _ => false
theorem intEq_spec {a b : Int} (h : intEq a b = true) : a = b := by
  cases a <;> cases b <;> first | (cases h; done) | (have := Nat.eq_of_beq_eq_true h; subst this; rfl)
def kindN : IntKind → Nat
  | .i8 => 0 | .i16 => 1 | .i32 => 2 | .i64 => 3 | .u8 => 4 | .u16 => 5 | .u32 => 6 | .u64 => 7
def kindEq (a b : IntKind) : Bool := Nat.beq (kindN a) (kindN b) && Nat.blt (kindN a) 8
theorem kindEq_spec {a b : IntKind} (h : kindEq a b = true) : a = b := by
  cases a <;> cases b <;> first | rfl | (exact absurd h (by decide))
mutual
def avEq : AV → AV → Bool
  | .bool a, y => match y with
    | .bool b => a == b
    | _ => false
  | .int k n, y => match y with
    | .int k' n' => match intEq n n' with
      | true => kindEq k k'
      | false => false
    | _ => false
  | .str s, y => match y with
    | .str t => bytesEq s.data.toList t.data.toList
    | _ => false
  | .nilp, y => match y with
    | .nilp => true
    | _ => false
  | .nils, y => match y with
    | .nils => true
    | _ => false
  | .nilf, y => match y with
    | .nilf => true
    | _ => false
  | .agg cs, y => match y with
    | .agg ds => avsEq cs ds
    | _ => false
  | .tup cs, y => match y with
    | .tup ds => avsEq cs ds
    | _ => false
  | _, _ => false
def avsEq : List AV → List AV → Bool
  | [], ys => match ys with
    | [] => true
    | _ => false
  | c :: cs, ys => match ys with
    | d :: ds => match avEq c d with
      | true => avsEq cs ds
      | false => false
    | [] => false
end
mutual
theorem avEq_spec : ∀ {x y : AV}, avEq x y = true → x = y
  | .bool a, y, h => by
    cases y <;> first | (simp [avEq] at h; done) | skip
    simp only [avEq, beq_iff_eq] at h
    rw [h]
  | .int k n, y, h => by
    cases y <;> first | (simp [avEq] at h; done) | skip
    simp only [avEq] at h
    split at h
    · rename_i h1
      rw [intEq_spec h1, kindEq_spec h]
    · cases h
  | .str s, y, h => by
    cases y <;> first | (simp [avEq] at h; done) | skip
    simp only [avEq, strEq_eq, decide_eq_true_eq] at h
    rw [h]
  | .nilp, y, h => by cases y <;> first | (simp [avEq] at h; done) | rfl
  | .nils, y, h => by cases y <;> first | (simp [avEq] at h; done) | rfl
  | .nilf, y, h => by cases y <;> first | (simp [avEq] at h; done) | rfl
  | .agg cs, y, h => by
    cases y <;> first | (simp [avEq] at h; done) | skip
    simp only [avEq] at h
    rw [avsEq_spec h]
  | .tup cs, y, h => by
    cases y <;> first | (simp [avEq] at h; done) | skip
    simp only [avEq] at h
    rw [avsEq_spec h]
  | .any, y, h => by simp [avEq] at h
  | .nili, y, h => by simp [avEq] at h
  | .nilm, y, h => by simp [avEq] at h
  | .sl _ _ _ _ _, y, h => by simp [avEq] at h
  | .fz _, y, h => by simp [avEq] at h
  | .fmap _ _ _ _ _, y, h => by simp [avEq] at h
  | .loc _ _, y, h => by simp [avEq] at h
  | .rowf _ _, y, h => by simp [avEq] at h
  | .rloc _ _ _ _, y, h => by simp [avEq] at h
  | .mp _, y, h => by simp [avEq] at h
  | .csl _ _ _ _, y, h => by simp [avEq] at h
  | .fn _ _ _, y, h => by simp [avEq] at h
  | .when _ _, y, h => by simp [avEq] at h
theorem avsEq_spec : ∀ {xs ys : List AV}, avsEq xs ys = true → xs = ys
  | [], ys, h => by cases ys <;> first | rfl | (simp [avsEq] at h; done)
  | c :: cs, ys, h => by
    cases ys with
    | nil => simp [avsEq] at h
    | cons d ds =>
      simp only [avsEq] at h
      split at h
      · rename_i h1
        rw [avEq_spec h1, avsEq_spec h]
      · cases h
end

/-- A call's answer. -/
structure Memo where
  f : FuncId
  xs : List AV
  r : AV
def memoB : List Memo → FuncId → List AV → Option AV
  | [], _, _ => none
  | e :: l, f, xs => match Nat.beq e.f f with
    | true => match avsEq e.xs xs with
      | true => some e.r
      | false => memoB l f xs
    | false => memoB l f xs
def MemoOk (P : Program) (l : List Memo) : Prop := ∀ e ∈ l, AV.closed.closeds e.xs = true ∧ Spec0 P e.f e.xs e.r
theorem memoB_spec {P : Program} : ∀ {l : List Memo} {f : FuncId} {xs : List AV} {r : AV}, MemoOk P l → memoB l f xs = some r → AV.closed.closeds xs = true ∧ Spec0 P f xs r
  | [], f, xs, r, hl, h => by cases h
  | e :: l, f, xs, r, hl, h => by
    simp only [memoB] at h
    split at h
    · rename_i h1
      split at h
      · rename_i h2
        cases h
        have := Nat.eq_of_beq_eq_true h1
        subst this
        rw [← avsEq_spec h2]
        exact hl e (by simp)
      · exact memoB_spec (fun e he => hl e (by simp [he])) h
    · exact memoB_spec (fun e he => hl e (by simp [he])) h
def withMemo (l : List Memo) (sp : FuncId → List AV → List Obj → Option (AV × List Obj)) (f : FuncId) (xs : List AV) (hp : List Obj) : Option (AV × List Obj) := match memoB l f xs with
  | some r => some (r, hp)
  | none => sp f xs hp
theorem withMemo_spec {P : Program} {l : List Memo} {sp : FuncId → List AV → List Obj → Option (AV × List Obj)} (hl : MemoOk P l) (hsp : CallSOk P sp) : CallSOk P (withMemo l sp) := by
  intro f xs hp r hp' h K hk
  unfold withMemo at h
  split at h
  · rename_i h1
    cases h
    obtain ⟨h2, h3⟩ := memoB_spec hl h1
    exact CallS.of_spec0 h2 h3 hk
  · exact hsp f xs hp r hp' h K hk
theorem MemoOk.nil {P : Program} : MemoOk P [] := fun e h => by cases h
theorem MemoOk.cons {P : Program} {l : List Memo} {f : FuncId} {xs : List AV} {r : AV} (hc : AV.closed.closeds xs = true) (h : Spec0 P f xs r) (hl : MemoOk P l) : MemoOk P (⟨f, xs, r⟩ :: l) := by
  intro e he
  rcases List.mem_cons.1 he with rfl | he
  · exact ⟨hc, h⟩
  · exact hl e he

/-- A run's answer, held against what it is said to be. -/
def answers (x : Option (AV × List Obj)) (r : AV) : Bool := match x with
  | some (v, _) => avEq v r
  | none => false
theorem Spec0.run_eq {P : Program} {T : Nat → TI} (hT : TOk P T) (hm : P.follows .mixedOrders = true) {eqt : Nat → List AV → List AV → Option Bool} (he : EqtOk P eqt) {sp : FuncId → List AV → List Obj → Option (AV × List Obj)} (hsp : CallSOk P sp) (rounds d : Nat) {f : FuncId} {xs : List AV} {r : AV} (hc : AV.closed r = true)
    (h : answers (funB P T eqt sp rounds d f xs []) r = true) : Spec0 P f xs r := by
  unfold answers at h
  split at h
  · rename_i v hp h1
    have := avEq_spec h
    subst this
    exact Spec0.of_call (funB_spec hT hm he hsp d _ _ _ _ _ h1 _ ⟨hc, VLe.refl _⟩)
  · cases h
end
end Go.Mir
