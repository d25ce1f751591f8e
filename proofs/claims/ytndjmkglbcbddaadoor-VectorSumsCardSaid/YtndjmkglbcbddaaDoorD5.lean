/- VectorSums: the law holds for every input (the row), and its card. Conditions: those of the row. -/
import Derived.Test.YtndjmkglbcbddaaDoorD3
import Derived.Test.YtndjmkglbcbddaaDoorD4m
import Derived.Test.YtndjmkglbcbddaaDoorMirRow
import Derived.Test.YtndjmkglbcbddaaDoorCards
import Derived.Test.YtndjmkglbcbddaaDoorTie
import Derived.Lay
import Derived.LaidLaws
import Derived.Handed
import Derived.MakeChecks
namespace Go.Proofs.YtndjmkglbcbddaaDoor
open Go Go.Mir Go.ChangeShapes Go.WideShapes Go.RowKit

theorem own : ownKnob Tryd.prog.godebug = none := by kernel_rfl
theorem laidOut : laidOutB Tryd.prog = true := by kernel_rfl
theorem codV : Cod Tryd.prog 23 Go.Mir.D.encV (fun _ => True) :=
  (Cod.struct (fs := _) Tryd.underlying23 (by kernel_rfl) (CodF.cons rfl (Cod.int Tryd.underlying3) (CodF.cons (by kernel_rfl) (Cod.int Tryd.underlying3) (CodF.cons (by kernel_rfl) (Cod.int Tryd.underlying3) CodF.nil)))).map
    (fun p => (p.1, p.2.1, p.2.2.1)) fun a _ => ⟨rfl, trivial⟩
theorem codL : Cod Tryd.prog 24 (fun l : List (Int × Int × Int) => [AV.sl (Int × Int × Int) Go.Mir.D.encV (Tryd.prog.cellsOf 23) (0, 0, 0) l]) (fun l => l.length ≤ maxLen ∧ ∀ a ∈ l, True) :=
  Cod.slice (0, 0, 0) Tryd.underlying24 (fun a _ => (show 3 = Tryd.prog.cellsOf 23 by kernel_rfl)) (by rw [show Tryd.prog.cellsOf 23 = 3 by kernel_rfl]; decide) codV

theorem paramsOk : ∀ t ∈ Tryd.f3.params.toList, Tryd.prog.readableRec t = true ∧ t < Tryd.prog.types.size := by
  rw [Tryd.params3]
  intro t ht
  simp only [List.mem_cons, List.mem_nil_iff, or_false] at ht
  rcases ht with rfl | rfl | rfl <;> exact ⟨by kernel_rfl, by decide +kernel⟩

set_option maxRecDepth 100000 in
theorem lifted (os : Os) (started : os.Started) (H : Type) (enc : TypeId × Value → H) :
    ReturnsInHanded {} Tryd.checked os 3 .any (fun w args => (Rows.vectorSumsSpec.pre enc Tryd.prog Tryd.f3 [] false w args ∧ laidMetH Tryd.prog Rows.vectorSumsRow.laid w) ∧ sizedMet enc Tryd.prog Tryd.f3 (OpenSpec.ofChange Rows.vectorSumsSpec) false w args)
      (Rows.vectorSumsSpec.post enc Tryd.prog Tryd.f3 false true false false) := by
  refine returnsInHanded_of_change_and (C := Tryd.checked) (X := fun w _ => laidMetH Tryd.prog Rows.vectorSumsRow.laid w) (fun _ _ _ hh h => h.of_heap hh) own started (by kernel_rfl) Tryd.func3
    (ChangeSpec.witness_shaped (enc := enc) (C := Tryd.checked) (os := os) (X := fun w _ => laidMetH Tryd.prog Rows.vectorSumsRow.laid w) false (World.laidAll Tryd.prog os Rows.vectorSumsRow.laid) #[.agg #[.int .i64 0, .int .i64 0, .int .i64 0], .agg #[.int .i64 0, .int .i64 0, .int .i64 0], .slice none 0 0] 8 (World.laidAll_os _ _ _)
      (World.shaped_of_ZipB (by kernel_rfl) (by kernel_rfl)) (by kernel_rfl) (by kernel_rfl) (by kernel_rfl)
      (by rw [MakeChecks.laidMetH_plain _ _ _ (by kernel_rfl)]; exact laidMet_laidAll _ (by kernel_rfl) (by kernel_rfl))) ?_
  intro W base args ds gs before hval0 hW _ _ hL _
  have hval : ∀ (j : Nat) t v, Tryd.f3.params[j]? = some t → args[j]? = some v → Value.okWide Tryd.prog W .any base t v := hval0
  have hW' := hW
  obtain ⟨p, q, hA0, hV, rfl, hfz, hnd⟩ := hW
  have hA : DataW.TrodAll enc Tryd.prog W 0 (fun _ => true) true Tryd.f3.params.toList args.toList ds p := hA0
  rw [Tryd.params3] at hA hval
  obtain ⟨v0, v1, v2, d0, d1, d2, p0, p1, p2, rfl, rfl, rfl, h0, h1, h2⟩ := trodAll_three hA
  obtain ⟨rfl, rfl⟩ := trodVars_none hV
  obtain ⟨a, _, r0⟩ := codV.val_agg Tryd.underlying23 (hval 0 23 v0 rfl rfl) h0
  obtain ⟨b, _, r1⟩ := codV.val_agg Tryd.underlying23 (hval 1 23 v1 rfl rfl) h1
  obtain ⟨l, ⟨hl, _⟩, r2⟩ := Cod.val_slice (mk := fun l => AV.sl _ Go.Mir.D.encV (Tryd.prog.cellsOf 23) (0, 0, 0) l) codL Tryd.underlying24 (hval 2 24 v2 rfl rfl) h2
  have hc : Tryd.prog.cellsOf 23 = 3 := by kernel_rfl
  rw [hc] at r2
  exact law_post (fn := Tryd.f3) Tryd.func3 rfl rfl laidOut paramsOk rfl Tryd.underlying4 rfl hW' rfl (.cons r0 (.cons r1 (.cons r2 .nil)))
    (Go.Mir.D.law_ Go.Mir.D.r12 a.1 a.2.1 a.2.2 b.1 b.2.1 b.2.2 l (0, 0, 0) (by unfold maxLen at hl; omega))

theorem said : Rows.VectorSumsSaid :=
  OpenClaim.holds_of_wide 3 Tryd.f3 rfl rfl rfl rfl rfl rfl rfl ⟨rfl, rfl, rfl, rfl, rfl⟩ rfl rfl rfl rfl rfl (by kernel_rfl) Tryd.func3 (by kernel_rfl)
    (of_decide_eq_true (by kernel_rfl)) (by unfold Func.isWrapper; first | (rw [if_pos (by decide +kernel)]; kernel_rfl) | (rw [if_neg (by decide +kernel)]; exact ⟨rfl, rfl⟩))
    (fun os started H enc _ => lifted os started H enc)

theorem plain (f : FuncId) (fn : Func) (hf : Tryd.pinned.checked.prog.funcNamed "berthing/berthinglaw04.VectorSums" = some f) (hfn : Tryd.pinned.checked.prog.funcs[f]? = some fn) :
    false = Tryd.pinned.checked.prog.looks [] ∧ ∀ (j : Nat) t, fn.params[j]? = some t → Tryd.pinned.checked.prog.wantsStandIn t = false := by
  obtain rfl : f = 3 := Option.some.inj ((show Tryd.prog.funcNamed "berthing/berthinglaw04.VectorSums" = some 3 by kernel_rfl).symm.trans hf) |>.symm
  obtain rfl : fn = Tryd.f3 := (Option.some.inj (Tryd.func3.symm.trans hfn)).symm
  refine ⟨by kernel_rfl, fun j t ht => ?_⟩
  rw [Tryd.params3] at ht
  have hm := Array.mem_of_getElem? ht
  simp only [List.mem_toArray, List.mem_cons, List.mem_nil_iff, or_false] at hm
  rcases hm with rfl | rfl | rfl
  · exact (show Tryd.prog.wantsStandIn 23 = false by kernel_rfl)
  · exact (show Tryd.prog.wantsStandIn 23 = false by kernel_rfl)
  · exact (show Tryd.prog.wantsStandIn 24 = false by kernel_rfl)

theorem holds : Rows.VectorSumsCardSaid :=
  Claim7.holds_tied_plain_at .later [] _ _ _ _ said (fun _ h => by cases h) (by kernel_rfl) (fun _ h => by cases h) vectorSums_row_tie rfl ⟨rfl, rfl⟩ (by kernel_rfl) rfl plain (by kernel_rfl)
#print axioms holds
end Go.Proofs.YtndjmkglbcbddaaDoor
