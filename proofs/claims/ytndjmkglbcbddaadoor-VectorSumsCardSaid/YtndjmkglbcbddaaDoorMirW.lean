/- Small words for walks: literals, bits. No condition. -/
import Derived.Test.YtndjmkglbcbddaaDoorMirV
set_option linter.unusedVariables false
namespace Go.Mir

def isLit : Int → Bool
  | .ofNat n => Nat.ble 0 n
  | .negSucc n => Nat.ble 0 n
/-- A small literal is written as one. -/
def litK (w : Int) (K : Int → Prop) : Prop :=
  match decide (w = 0) with
  | true => K 0
  | false => match decide (w = 1) with
    | true => K 1
    | false => match decide (w = 2) with
      | true => K 2
      | false => match decide (w = 3) with
        | true => K 3
        | false => match decide (w = 4) with
          | true => K 4
          | false => match decide (w = 5) with
            | true => K 5
            | false => match decide (w = -1) with
              | true => K (-1)
              | false => match w with
                | .ofNat 0 => K (Int.ofNat 0)
                | .ofNat (m + 1) => K (Int.ofNat (m + 1))
                | .negSucc m => K (Int.negSucc m)
theorem litK_spec {w : Int} {K : Int → Prop} (h : litK w K) : K w := by
  unfold litK at h
  repeat' split at h
  all_goals first | exact h | (rename_i e; rw [of_decide_eq_true e]; exact h)
theorem lit_intro {g : Option Bool} {w : Int} {K : Int → Prop} (h0 : isLit w = true) (h : litK w K) : ∃ r, ob g (w = r) ∧ K r :=
  ⟨w, by cases g <;> first | exact rfl | exact fun _ => rfl, litK_spec h⟩

/-- A branch over a decision. -/
theorem br_dec {p : Prop} [Decidable p] {A B : Prop} (h1 : p → A) (h2 : ¬ p → B) : (decide p = true → A) ∧ (decide p = false → B) :=
  ⟨fun h => h1 (of_decide_eq_true h), fun h => h2 (of_decide_eq_false h)⟩
theorem br_ndec {p : Prop} [Decidable p] {A B : Prop} (h1 : ¬ p → A) (h2 : p → B) : ((!decide p) = true → A) ∧ ((!decide p) = false → B) :=
  ⟨fun h => h1 (by simpa using h), fun h => h2 (by simpa using h)⟩
theorem br_not {b : Bool} {A B : Prop} (h1 : b = false → A) (h2 : b = true → B) : ((!b) = true → A) ∧ ((!b) = false → B) :=
  ⟨fun h => h1 (by simpa using h), fun h => h2 (by simpa using h)⟩
theorem br_lit {b : Bool} {A B : Prop} (h : b = true) (h1 : A) : (b = true → A) ∧ (b = false → B) := ⟨fun _ => h1, fun h' => by rw [h] at h'; cases h'⟩
theorem br_litF {b : Bool} {A B : Prop} (h : b = false) (h1 : B) : (b = true → A) ∧ (b = false → B) := ⟨fun h' => (by rw [h] at h'; cases h'), fun _ => h1⟩
/-- A row of literal data is written with a table. -/
def copyLL : List (List AV) → (List (List AV) → Prop) → Prop
  | [], K => K []
  | l :: ls, K => headL l fun l => copyLL ls fun ls => K (l :: ls)
theorem copyLL_spec : ∀ {ls : List (List AV)} {K : List (List AV) → Prop}, copyLL ls K → K ls
  | [], K, h => h
  | l :: ls, K, h => copyLL_spec (ls := ls) (headL_spec (K := fun l => copyLL ls fun ls => K (l :: ls)) h)
theorem lit_rows {ls : List (List AV)} {Q : (β : Type) → (β → List AV) → β → List β → Prop} (h : copyLL ls fun ls => Q Nat (fun k => ls.getD k []) 0 (List.range ls.length)) :
    ∃ (β : Type) (e' : β → List AV) (d' : β) (zs : List β), zs.map e' = ls ∧ Q β e' d' zs := by
  refine ⟨Nat, _, 0, _, ?_, copyLL_spec h⟩
  apply List.ext_getElem?
  intro i
  by_cases hi : i < ls.length
  · rw [List.getElem?_map, List.getElem?_eq_getElem (by simpa using hi), List.getElem?_eq_getElem hi]
    simp [List.getD_eq_getElem?_getD, hi]
  · rw [List.getElem?_eq_none (by simpa using hi), List.getElem?_eq_none (by simpa using hi)]
theorem i64_in {n : Int} (h : -9223372036854775808 ≤ n) (h' : n ≤ 9223372036854775807) : IntKind.i64.wrap n = n := by
  unfold IntKind.wrap
  simp [IntKind.bits, IntKind.signed]
  omega
theorem bv_wrap (n : Int) : BitVec.ofInt IntKind.i64.bits (IntKind.i64.wrap n) = BitVec.ofInt IntKind.i64.bits n := by
  apply BitVec.eq_of_toNat_eq
  simp only [BitVec.toNat_ofInt, IntKind.wrap, IntKind.bits, IntKind.signed]
  simp
  split <;> omega
theorem bv_small {n : Int} (h : 0 ≤ n) (h' : n ≤ 9223372036854775807) : (BitVec.ofInt IntKind.i64.bits n).toNat = n.toNat := by
  simp only [BitVec.toNat_ofInt, IntKind.bits]
  congr 1
  omega
theorem bv_self (v : BitVec IntKind.i64.bits) : BitVec.ofInt IntKind.i64.bits (IntKind.i64.wrap v.toNat) = v := by
  rw [bv_wrap]
  apply BitVec.eq_of_toNat_eq
  rw [BitVec.toNat_ofInt]
  have := v.isLt
  simp only [IntKind.bits] at this ⊢
  omega
/-- What is not negative stays so under '&'. -/
theorem and_nonneg (x z : BitVec IntKind.i64.bits) (hx : x.toNat < 2 ^ 63) : 0 ≤ IntKind.i64.wrap (x &&& z).toNat := by
  have h1 : (x &&& z).toNat ≤ x.toNat := by rw [BitVec.toNat_and]; exact Nat.and_le_left
  rw [i64_in] <;> omega
theorem xor_small {a b : Int} (ha : 0 ≤ a) (ha' : a ≤ 9223372036854775807) (hb : 0 ≤ b) (hb' : b ≤ 9223372036854775807) : (BitVec.ofInt IntKind.i64.bits a ^^^ BitVec.ofInt IntKind.i64.bits b).toNat < 2 ^ 63 := by
  rw [BitVec.toNat_xor, bv_small ha ha', bv_small hb hb']
  exact Nat.xor_lt_two_pow (by omega) (by omega)
theorem i64_u64 (n : Int) : IntKind.i64.wrap (IntKind.u64.wrap n) = IntKind.i64.wrap n := by
  unfold IntKind.wrap
  simp [IntKind.bits, IntKind.signed]
theorem u64_add (a b : Int) : IntKind.u64.wrap (IntKind.u64.wrap a + IntKind.u64.wrap b) = IntKind.u64.wrap (a + b) := by
  unfold IntKind.wrap
  simp [IntKind.bits, IntKind.signed]
theorem u64_sub (a b : Int) : IntKind.u64.wrap (IntKind.u64.wrap a - IntKind.u64.wrap b) = IntKind.u64.wrap (a - b) := by
  unfold IntKind.wrap
  simp [IntKind.bits, IntKind.signed]
end Go.Mir
