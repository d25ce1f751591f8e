import Derived.Test.YtndjmkglbcbddaaDoorD2
namespace Go.Mir.D
open Go Go.Mir Go.Proofs.Tryd
attribute [local irreducible] Run CallS Spec0 EqTo VLe Le
set_option maxRecDepth 100000
theorem both_false {op : Int → Int → Int} {a b c d e f : Int} (h : (both op a b c d e f).2 = false) : (both op a b c d e f).1 = (0, 0, 0) := by
  unfold both at h ⊢
  split <;> simp_all
theorem rsum_ (l : List V) (d : V) (hl : l.length ≤ 9223372036854775807) : Spec0 prog 10 [.sl V encV 3 d l] (.tup [.agg [.int .i64 (sumV (0, 0, 0) l).1.1, .int .i64 (sumV (0, 0, 0) l).1.2.1, .int .i64 (sumV (0, 0, 0) l).1.2.2], .bool (sumV (0, 0, 0) l).2]) := by
  refine Spec0.of_call (CallS.of_code tok func10 rfl rfl ?_)
  conv => whnf
  refine codeE_sound tok mixed _ ?_
  conv => whnf
  repeat (first | (refine ⟨rfl, ?_⟩; conv => whnf) | (refine lit_intro rfl ?_; conv => whnf) | (refine ⟨_, rfl, ?_⟩; conv => whnf) | (refine ⟨Nat.le_of_ble_eq_true rfl, ?_⟩; conv => whnf) | (refine ⟨fun h => h, ?_⟩; conv => whnf) | (refine ⟨_, fun _ => rfl, ?_⟩; conv => whnf) | (refine ⟨fun _ => rfl, ?_⟩; conv => whnf) | (refine ⟨fun h => congrArg Bool.not h, ?_⟩; conv => whnf) | (refine ⟨fun _ => of_decide_eq_true rfl, ?_⟩; conv => whnf) | (refine ⟨of_decide_eq_true rfl, ?_⟩; conv => whnf) | (refine ⟨⟨of_decide_eq_true rfl, of_decide_eq_true rfl⟩, ?_⟩; conv => whnf) | (refine ⟨⟨of_decide_eq_true rfl, of_decide_eq_true rfl, of_decide_eq_true rfl⟩, ?_⟩; conv => whnf) | (refine ⟨⟨of_decide_eq_true rfl, of_decide_eq_true rfl, of_decide_eq_true rfl, of_decide_eq_true rfl⟩, ?_⟩; conv => whnf) | (refine ⟨⟨by omega, by omega⟩, ?_⟩; conv => whnf) | (refine ⟨fun h => ⟨by omega, by omega⟩, ?_⟩; conv => whnf) | (refine ⟨fun _ => Nat.le_of_ble_eq_true rfl, ?_⟩; conv => whnf) | fail)
  refine Run.loop (ι := { p : Nat × V × Bool // p.1 ≤ l.length ∧ sumV (0, 0, 0) l = (if p.2.2 = true then sumV p.2.1 (l.drop p.1) else (p.2.1, false)) ∧ (p.2.2 = false → p.2.1 = (0, 0, 0)) }) (I := fun p => ⟨[.sl V encV 3 d l, .any, .loc 0 0, .bool false, .loc 1 0, .bool p.1.2.2, .any, .any, .any, .sl V encV 3 d l, .int .i64 l.length, .int .i64 p.1.1, .any, .any, .any, .any, .any, .any, .any, .any, .any, .any, .any, .any, .any], [.cells [.any, .any, .any], .cells [.int .i64 p.1.2.1.1, .int .i64 p.1.2.1.2.1, .int .i64 p.1.2.1.2.2]]⟩) (μ := fun p => l.length - p.1.1) (i0 := ⟨(0, (0, 0, 0), true), Nat.zero_le _, rfl, by simp⟩) ?_ ?_
  · refine Le.of ?_
    conv => whnf
    repeat (first | exact ⟨rfl, rfl, rfl⟩ | (refine ⟨VLe.refl _, ?_⟩; conv => whnf) | (refine ⟨VLe.of_eq (congrArg (AV.int _) (i64_in (by omega) (by omega))), ?_⟩; conv => whnf) | fail)
  · rintro ⟨⟨i, o, ok⟩, hi, hs, hz⟩
    dsimp only at hi hs hz ⊢
    refine codeE_sound tok mixed _ ?_
    conv => whnf
    repeat (first | (refine ⟨rfl, ?_⟩; conv => whnf) | (refine lit_intro rfl ?_; conv => whnf) | (refine ⟨_, rfl, ?_⟩; conv => whnf) | (refine ⟨Nat.le_of_ble_eq_true rfl, ?_⟩; conv => whnf) | (refine ⟨fun h => h, ?_⟩; conv => whnf) | (refine ⟨_, fun _ => rfl, ?_⟩; conv => whnf) | (refine ⟨fun _ => rfl, ?_⟩; conv => whnf) | (refine ⟨fun h => congrArg Bool.not h, ?_⟩; conv => whnf) | (refine ⟨fun _ => of_decide_eq_true rfl, ?_⟩; conv => whnf) | (refine ⟨of_decide_eq_true rfl, ?_⟩; conv => whnf) | (refine ⟨⟨of_decide_eq_true rfl, of_decide_eq_true rfl⟩, ?_⟩; conv => whnf) | (refine ⟨⟨of_decide_eq_true rfl, of_decide_eq_true rfl, of_decide_eq_true rfl⟩, ?_⟩; conv => whnf) | (refine ⟨⟨of_decide_eq_true rfl, of_decide_eq_true rfl, of_decide_eq_true rfl, of_decide_eq_true rfl⟩, ?_⟩; conv => whnf) | (refine ⟨⟨by omega, by omega⟩, ?_⟩; conv => whnf) | (refine ⟨fun h => ⟨by omega, by omega⟩, ?_⟩; conv => whnf) | (refine ⟨fun _ => Nat.le_of_ble_eq_true rfl, ?_⟩; conv => whnf) | fail)
    repeat' (first | exact absurd ‹_› (by decide) | (refine ⟨rfl, ?_⟩; conv => whnf) | (refine lit_intro rfl ?_; conv => whnf) | (refine ⟨_, rfl, ?_⟩; conv => whnf) | (refine ⟨Nat.le_of_ble_eq_true rfl, ?_⟩; conv => whnf) | (refine ⟨fun h => h, ?_⟩; conv => whnf) | (refine ⟨_, fun _ => rfl, ?_⟩; conv => whnf) | (refine ⟨fun _ => rfl, ?_⟩; conv => whnf) | (refine ⟨fun h => congrArg Bool.not h, ?_⟩; conv => whnf) | (refine ⟨fun _ => of_decide_eq_true rfl, ?_⟩; conv => whnf) | (refine ⟨of_decide_eq_true rfl, ?_⟩; conv => whnf) | (refine ⟨⟨of_decide_eq_true rfl, of_decide_eq_true rfl⟩, ?_⟩; conv => whnf) | (refine ⟨⟨of_decide_eq_true rfl, of_decide_eq_true rfl, of_decide_eq_true rfl⟩, ?_⟩; conv => whnf) | (refine ⟨⟨of_decide_eq_true rfl, of_decide_eq_true rfl, of_decide_eq_true rfl, of_decide_eq_true rfl⟩, ?_⟩; conv => whnf) | (refine ⟨⟨by omega, by omega⟩, ?_⟩; conv => whnf) | (refine ⟨fun h => ⟨by omega, by omega⟩, ?_⟩; conv => whnf) | (refine ⟨fun _ => Nat.le_of_ble_eq_true rfl, ?_⟩; conv => whnf) | (refine CallS.of_spec0 rfl (radd_ ..) ?_; conv => whnf) | (refine ⟨_, radd_ .., ?_⟩; conv => whnf) | (refine ⟨_, fun _ => radd_ .., ?_⟩; conv => whnf) | ((with_reducible refine br_ndec (fun h => ?_) (fun h => ?_)) <;> conv => whnf) | ((with_reducible refine br_not (fun h => ?_) (fun h => ?_)) <;> conv => whnf) | ((with_reducible refine br_dec (fun h => ?_) (fun h => ?_)) <;> conv => whnf) | (refine ⟨fun h => ?_, fun h => ?_⟩ <;> conv => whnf) | fail)
    · have h1 : i < l.length := by omega
      subst h
      rw [if_pos rfl, sumV_step d h1] at hs
      refine ⟨⟨(i + 1, plusV o (l.getD i d)), h1, ?_, both_false⟩, by dsimp only; omega, ?_⟩
      · dsimp only
        rw [hs]
        split
        · rfl
        · rename_i hb
          rw [Bool.not_eq_true] at hb
          have h3 : (plusV o (l.getD i d)).1 = (0, 0, 0) := both_false hb
          rw [h3]
      · refine Le.of ?_
        conv => whnf
        repeat (first | exact ⟨rfl, rfl, rfl⟩ | (refine ⟨VLe.refl _, ?_⟩; conv => whnf) | (refine ⟨VLe.of_eq (congrArg (AV.int _) (i64_in (by omega) (by omega))), ?_⟩; conv => whnf) | fail)
    · have h1 : i < l.length := by omega
      subst h
      refine ⟨⟨(i + 1, o, false), h1, hs, hz⟩, by dsimp only; omega, ?_⟩
      refine Le.of ?_
      conv => whnf
      repeat (first | exact ⟨rfl, rfl, rfl⟩ | (refine ⟨VLe.refl _, ?_⟩; conv => whnf) | (refine ⟨VLe.of_eq (congrArg (AV.int _) (i64_in (by omega) (by omega))), ?_⟩; conv => whnf) | fail)
    · have h1 : i = l.length := by omega
      subst h1
      rw [List.drop_length] at hs
      cases ok
      · rw [if_neg (by simp)] at hs
        rw [hs]
        exact VLe.refl _
      · rw [if_pos rfl] at hs
        rw [hs]
        exact VLe.refl _
theorem keys23 : prog.keyTypeAt 4 23 = true := by kernel_rfl
theorem guard23 : prog.eqGuardType prog.depth 23 = false := by kernel_rfl
theorem eq23 (a b c d e f : Int) : EqTo prog 23 [.int .i64 a, .int .i64 b, .int .i64 c] [.int .i64 d, .int .i64 e, .int .i64 f] (decide (a = d) && (decide (b = e) && (decide (c = f) && true))) :=
  EqTo.of tok 4 (by decide) keys23 guard23 rfl
theorem law_ (hf : Spec0 prog 4 [] (.bool true)) (a b c d e f : Int) (l : List V) (dd : V) (hl : l.length ≤ 9223372036854775807) : Spec0 prog 3 [.agg [.int .i64 a, .int .i64 b, .int .i64 c], .agg [.int .i64 d, .int .i64 e, .int .i64 f], .sl V encV 3 dd l] (.bool true) := by
  refine Spec0.of_call (CallS.of_code tok func3 rfl rfl ?_)
  conv => whnf
  refine codeE_sound tok mixed _ ?_
  conv => whnf
  repeat (first | (refine ⟨rfl, ?_⟩; conv => whnf) | (refine lit_intro rfl ?_; conv => whnf) | (refine ⟨_, rfl, ?_⟩; conv => whnf) | (refine ⟨Nat.le_of_ble_eq_true rfl, ?_⟩; conv => whnf) | (refine ⟨fun h => h, ?_⟩; conv => whnf) | (refine ⟨_, fun _ => rfl, ?_⟩; conv => whnf) | (refine ⟨fun _ => rfl, ?_⟩; conv => whnf) | (refine ⟨fun h => congrArg Bool.not h, ?_⟩; conv => whnf) | (refine ⟨fun _ => of_decide_eq_true rfl, ?_⟩; conv => whnf) | (refine ⟨of_decide_eq_true rfl, ?_⟩; conv => whnf) | (refine ⟨⟨of_decide_eq_true rfl, of_decide_eq_true rfl⟩, ?_⟩; conv => whnf) | (refine ⟨⟨of_decide_eq_true rfl, of_decide_eq_true rfl, of_decide_eq_true rfl⟩, ?_⟩; conv => whnf) | (refine ⟨⟨of_decide_eq_true rfl, of_decide_eq_true rfl, of_decide_eq_true rfl, of_decide_eq_true rfl⟩, ?_⟩; conv => whnf) | (refine ⟨⟨by omega, by omega⟩, ?_⟩; conv => whnf) | (refine ⟨fun h => ⟨by omega, by omega⟩, ?_⟩; conv => whnf) | (refine ⟨fun _ => Nat.le_of_ble_eq_true rfl, ?_⟩; conv => whnf) | fail)
  have v1 := vsum_ l dd hl
  have v2 := rsum_ l dd hl
  repeat' (first | exact absurd ‹_› (by decide) | (refine ⟨rfl, ?_⟩; conv => whnf) | (refine lit_intro rfl ?_; conv => whnf) | (refine ⟨_, rfl, ?_⟩; conv => whnf) | (refine ⟨Nat.le_of_ble_eq_true rfl, ?_⟩; conv => whnf) | (refine ⟨fun h => h, ?_⟩; conv => whnf) | (refine ⟨_, fun _ => rfl, ?_⟩; conv => whnf) | (refine ⟨fun _ => rfl, ?_⟩; conv => whnf) | (refine ⟨fun h => congrArg Bool.not h, ?_⟩; conv => whnf) | (refine ⟨fun _ => of_decide_eq_true rfl, ?_⟩; conv => whnf) | (refine ⟨of_decide_eq_true rfl, ?_⟩; conv => whnf) | (refine ⟨⟨of_decide_eq_true rfl, of_decide_eq_true rfl⟩, ?_⟩; conv => whnf) | (refine ⟨⟨of_decide_eq_true rfl, of_decide_eq_true rfl, of_decide_eq_true rfl⟩, ?_⟩; conv => whnf) | (refine ⟨⟨of_decide_eq_true rfl, of_decide_eq_true rfl, of_decide_eq_true rfl, of_decide_eq_true rfl⟩, ?_⟩; conv => whnf) | (refine ⟨⟨by omega, by omega⟩, ?_⟩; conv => whnf) | (refine ⟨fun h => ⟨by omega, by omega⟩, ?_⟩; conv => whnf) | (refine ⟨fun _ => Nat.le_of_ble_eq_true rfl, ?_⟩; conv => whnf) | (refine CallS.of_spec0 rfl (hf ..) ?_; conv => whnf) | (refine CallS.of_spec0 rfl (vadd_ ..) ?_; conv => whnf) | (refine CallS.of_spec0 rfl (radd_ ..) ?_; conv => whnf) | (refine CallS.of_spec0 rfl (vsub_ ..) ?_; conv => whnf) | (refine CallS.of_spec0 rfl (rsub_ ..) ?_; conv => whnf) | (refine CallS.of_spec0 rfl (v1 ..) ?_; conv => whnf) | (refine CallS.of_spec0 rfl (v2 ..) ?_; conv => whnf) | (refine CallS.of_spec0 rfl (eq23 ..) ?_; conv => whnf) | (refine ⟨_, hf .., ?_⟩; conv => whnf) | (refine ⟨_, fun _ => hf .., ?_⟩; conv => whnf) | (refine ⟨_, vadd_ .., ?_⟩; conv => whnf) | (refine ⟨_, fun _ => vadd_ .., ?_⟩; conv => whnf) | (refine ⟨_, radd_ .., ?_⟩; conv => whnf) | (refine ⟨_, fun _ => radd_ .., ?_⟩; conv => whnf) | (refine ⟨_, vsub_ .., ?_⟩; conv => whnf) | (refine ⟨_, fun _ => vsub_ .., ?_⟩; conv => whnf) | (refine ⟨_, rsub_ .., ?_⟩; conv => whnf) | (refine ⟨_, fun _ => rsub_ .., ?_⟩; conv => whnf) | (refine ⟨_, v1 .., ?_⟩; conv => whnf) | (refine ⟨_, fun _ => v1 .., ?_⟩; conv => whnf) | (refine ⟨_, v2 .., ?_⟩; conv => whnf) | (refine ⟨_, fun _ => v2 .., ?_⟩; conv => whnf) | (refine ⟨_, eq23 .., ?_⟩; conv => whnf) | (refine ⟨_, fun _ => eq23 .., ?_⟩; conv => whnf) | ((with_reducible refine br_ndec (fun h => ?_) (fun h => ?_)) <;> conv => whnf) | ((with_reducible refine br_not (fun h => ?_) (fun h => ?_)) <;> conv => whnf) | ((with_reducible refine br_dec (fun h => ?_) (fun h => ?_)) <;> conv => whnf) | (refine ⟨fun h => ?_, fun h => ?_⟩ <;> conv => whnf) | fail)
  · exact VLe.refl _
  · exact VLe.of_eq (congrArg AV.bool (by simp))
end Go.Mir.D
