import Derived.Test.YtndjmkglbcbddaaDoorD1
namespace Go.Mir.D
open Go Go.Mir Go.Proofs.Tryd
attribute [local irreducible] Run CallS Spec0 EqTo VLe Le
set_option maxRecDepth 100000
abbrev V := Int × Int × Int
def plusV (x y : V) : V × Bool := both (· + ·) x.1 x.2.1 x.2.2 y.1 y.2.1 y.2.2
def sumV : V → List V → V × Bool
  | out, [] => (out, true)
  | out, v :: l => if (plusV out v).2 then sumV (plusV out v).1 l else ((0, 0, 0), false)
theorem sumV_step {out : V} {l : List V} {i : Nat} (d : V) (h : i < l.length) : sumV out (l.drop i) = if (plusV out (l.getD i d)).2 then sumV (plusV out (l.getD i d)).1 (l.drop (i + 1)) else ((0, 0, 0), false) := by
  rw [List.drop_eq_getElem_cons h]
  simp only [sumV, List.getD_eq_getElem?_getD, List.getElem?_eq_getElem h, Option.getD_some]
theorem vsum_ (l : List V) (d : V) (hl : l.length ≤ 9223372036854775807) : Spec0 prog 9 [.sl V encV 3 d l] (.tup [.agg [.int .i64 (sumV (0, 0, 0) l).1.1, .int .i64 (sumV (0, 0, 0) l).1.2.1, .int .i64 (sumV (0, 0, 0) l).1.2.2], .bool (sumV (0, 0, 0) l).2]) := by
  refine Spec0.of_call (CallS.of_code tok func9 rfl rfl ?_)
  conv => whnf
  refine codeE_sound tok mixed _ ?_
  conv => whnf
  repeat (first | (refine ⟨rfl, ?_⟩; conv => whnf) | (refine lit_intro rfl ?_; conv => whnf) | (refine ⟨_, rfl, ?_⟩; conv => whnf) | (refine ⟨Nat.le_of_ble_eq_true rfl, ?_⟩; conv => whnf) | (refine ⟨fun h => h, ?_⟩; conv => whnf) | (refine ⟨_, fun _ => rfl, ?_⟩; conv => whnf) | (refine ⟨fun _ => rfl, ?_⟩; conv => whnf) | (refine ⟨fun h => congrArg Bool.not h, ?_⟩; conv => whnf) | (refine ⟨fun _ => of_decide_eq_true rfl, ?_⟩; conv => whnf) | (refine ⟨of_decide_eq_true rfl, ?_⟩; conv => whnf) | (refine ⟨⟨of_decide_eq_true rfl, of_decide_eq_true rfl⟩, ?_⟩; conv => whnf) | (refine ⟨⟨of_decide_eq_true rfl, of_decide_eq_true rfl, of_decide_eq_true rfl⟩, ?_⟩; conv => whnf) | (refine ⟨⟨of_decide_eq_true rfl, of_decide_eq_true rfl, of_decide_eq_true rfl, of_decide_eq_true rfl⟩, ?_⟩; conv => whnf) | (refine ⟨⟨by omega, by omega⟩, ?_⟩; conv => whnf) | (refine ⟨fun h => ⟨by omega, by omega⟩, ?_⟩; conv => whnf) | (refine ⟨fun _ => Nat.le_of_ble_eq_true rfl, ?_⟩; conv => whnf) | fail)
  refine Run.loop (ι := { p : Nat × V // p.1 ≤ l.length ∧ sumV (0, 0, 0) l = sumV p.2 (l.drop p.1) }) (I := fun p => ⟨[.sl V encV 3 d l, .any, .loc 0 0, .bool false, .loc 1 0, .any, .any, .any, .any, .sl V encV 3 d l, .int .i64 l.length, .int .i64 p.1.1, .any, .any, .any, .any, .any, .any, .any, .any, .any, .any, .any, .any, .any, .any, .any], [.cells [.any, .any, .any], .cells [.int .i64 p.1.2.1, .int .i64 p.1.2.2.1, .int .i64 p.1.2.2.2]]⟩) (μ := fun p => l.length - p.1.1) (i0 := ⟨(0, 0, 0, 0), Nat.zero_le _, rfl⟩) ?_ ?_
  · refine Le.of ?_
    conv => whnf
    repeat (first | exact ⟨rfl, rfl, rfl⟩ | (refine ⟨VLe.refl _, ?_⟩; conv => whnf) | (refine ⟨VLe.of_eq (congrArg (AV.int _) (i64_in (by omega) (by omega))), ?_⟩; conv => whnf) | fail)
  · rintro ⟨⟨i, o⟩, hi, hs⟩
    dsimp only at hi hs ⊢
    refine codeE_sound tok mixed _ ?_
    conv => whnf
    repeat (first | (refine ⟨rfl, ?_⟩; conv => whnf) | (refine lit_intro rfl ?_; conv => whnf) | (refine ⟨_, rfl, ?_⟩; conv => whnf) | (refine ⟨Nat.le_of_ble_eq_true rfl, ?_⟩; conv => whnf) | (refine ⟨fun h => h, ?_⟩; conv => whnf) | (refine ⟨_, fun _ => rfl, ?_⟩; conv => whnf) | (refine ⟨fun _ => rfl, ?_⟩; conv => whnf) | (refine ⟨fun h => congrArg Bool.not h, ?_⟩; conv => whnf) | (refine ⟨fun _ => of_decide_eq_true rfl, ?_⟩; conv => whnf) | (refine ⟨of_decide_eq_true rfl, ?_⟩; conv => whnf) | (refine ⟨⟨of_decide_eq_true rfl, of_decide_eq_true rfl⟩, ?_⟩; conv => whnf) | (refine ⟨⟨of_decide_eq_true rfl, of_decide_eq_true rfl, of_decide_eq_true rfl⟩, ?_⟩; conv => whnf) | (refine ⟨⟨of_decide_eq_true rfl, of_decide_eq_true rfl, of_decide_eq_true rfl, of_decide_eq_true rfl⟩, ?_⟩; conv => whnf) | (refine ⟨⟨by omega, by omega⟩, ?_⟩; conv => whnf) | (refine ⟨fun h => ⟨by omega, by omega⟩, ?_⟩; conv => whnf) | (refine ⟨fun _ => Nat.le_of_ble_eq_true rfl, ?_⟩; conv => whnf) | fail)
    repeat' (first | exact absurd ‹_› (by decide) | (refine ⟨rfl, ?_⟩; conv => whnf) | (refine lit_intro rfl ?_; conv => whnf) | (refine ⟨_, rfl, ?_⟩; conv => whnf) | (refine ⟨Nat.le_of_ble_eq_true rfl, ?_⟩; conv => whnf) | (refine ⟨fun h => h, ?_⟩; conv => whnf) | (refine ⟨_, fun _ => rfl, ?_⟩; conv => whnf) | (refine ⟨fun _ => rfl, ?_⟩; conv => whnf) | (refine ⟨fun h => congrArg Bool.not h, ?_⟩; conv => whnf) | (refine ⟨fun _ => of_decide_eq_true rfl, ?_⟩; conv => whnf) | (refine ⟨of_decide_eq_true rfl, ?_⟩; conv => whnf) | (refine ⟨⟨of_decide_eq_true rfl, of_decide_eq_true rfl⟩, ?_⟩; conv => whnf) | (refine ⟨⟨of_decide_eq_true rfl, of_decide_eq_true rfl, of_decide_eq_true rfl⟩, ?_⟩; conv => whnf) | (refine ⟨⟨of_decide_eq_true rfl, of_decide_eq_true rfl, of_decide_eq_true rfl, of_decide_eq_true rfl⟩, ?_⟩; conv => whnf) | (refine ⟨⟨by omega, by omega⟩, ?_⟩; conv => whnf) | (refine ⟨fun h => ⟨by omega, by omega⟩, ?_⟩; conv => whnf) | (refine ⟨fun _ => Nat.le_of_ble_eq_true rfl, ?_⟩; conv => whnf) | (refine CallS.of_spec0 rfl (vadd_ ..) ?_; conv => whnf) | (refine ⟨_, vadd_ .., ?_⟩; conv => whnf) | (refine ⟨_, fun _ => vadd_ .., ?_⟩; conv => whnf) | ((with_reducible refine br_ndec (fun h => ?_) (fun h => ?_)) <;> conv => whnf) | ((with_reducible refine br_not (fun h => ?_) (fun h => ?_)) <;> conv => whnf) | ((with_reducible refine br_dec (fun h => ?_) (fun h => ?_)) <;> conv => whnf) | (refine ⟨fun h => ?_, fun h => ?_⟩ <;> conv => whnf) | fail)
    · have h1 : i < l.length := by omega
      rw [sumV_step d h1] at hs
      have h2 : (plusV o (l.getD i d)).2 = false := h
      rw [h2] at hs
      rw [hs]
      exact VLe.refl _
    · have h1 : i < l.length := by omega
      rw [sumV_step d h1] at hs
      have h2 : (plusV o (l.getD i d)).2 = true := h
      rw [if_pos h2] at hs
      refine ⟨⟨(i + 1, (plusV o (l.getD i d)).1), h1, hs⟩, by dsimp only; omega, ?_⟩
      refine Le.of ?_
      conv => whnf
      repeat (first | exact ⟨rfl, rfl, rfl⟩ | (refine ⟨VLe.refl _, ?_⟩; conv => whnf) | (refine ⟨VLe.of_eq (congrArg (AV.int _) (i64_in (by omega) (by omega))), ?_⟩; conv => whnf) | fail)
    · have h1 : i = l.length := by omega
      subst h1
      rw [List.drop_length] at hs
      rw [hs]
      exact VLe.refl _
end Go.Mir.D
