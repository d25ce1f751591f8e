import Derived.Test.YtndjmkglbcbddaaDoorDT
import Derived.Test.YtndjmkglbcbddaaDoorMirX
namespace Go.Mir.D
open Go Go.Mir Go.Proofs.Tryd
theorem mixed : prog.follows .mixedOrders = true := by kernel_rfl
attribute [local irreducible] Run CallS Spec0 EqTo VLe
set_option maxRecDepth 100000
theorem parts_ (a b c : Int) : Spec0 prog 26 [.agg [.int .i64 a, .int .i64 b, .int .i64 c]] (.agg [.int .i64 a, .int .i64 b, .int .i64 c]) := by
  refine Spec0.of_call (CallS.of_code tok func26 rfl rfl ?_)
  conv => whnf
  refine codeE_sound tok mixed _ ?_
  conv => whnf
  repeat (first | (refine ⟨rfl, ?_⟩; conv => whnf) | (refine lit_intro rfl ?_; conv => whnf) | (refine ⟨_, rfl, ?_⟩; conv => whnf) | (refine ⟨Nat.le_of_ble_eq_true rfl, ?_⟩; conv => whnf) | (refine ⟨fun h => h, ?_⟩; conv => whnf) | (refine ⟨_, fun _ => rfl, ?_⟩; conv => whnf) | (refine ⟨fun _ => rfl, ?_⟩; conv => whnf) | (refine ⟨fun h => congrArg Bool.not h, ?_⟩; conv => whnf) | (refine ⟨fun _ => of_decide_eq_true rfl, ?_⟩; conv => whnf) | (refine ⟨of_decide_eq_true rfl, ?_⟩; conv => whnf) | (refine ⟨⟨of_decide_eq_true rfl, of_decide_eq_true rfl⟩, ?_⟩; conv => whnf) | (refine ⟨⟨of_decide_eq_true rfl, of_decide_eq_true rfl, of_decide_eq_true rfl⟩, ?_⟩; conv => whnf) | (refine ⟨⟨of_decide_eq_true rfl, of_decide_eq_true rfl, of_decide_eq_true rfl, of_decide_eq_true rfl⟩, ?_⟩; conv => whnf) | (refine ⟨⟨by omega, by omega⟩, ?_⟩; conv => whnf) | (refine ⟨fun h => ⟨by omega, by omega⟩, ?_⟩; conv => whnf) | (refine ⟨fun _ => Nat.le_of_ble_eq_true rfl, ?_⟩; conv => whnf) | fail)
  exact VLe.refl _
theorem of_ (a b c : Int) : Spec0 prog 31 [.agg [.int .i64 a, .int .i64 b, .int .i64 c]] (.agg [.int .i64 a, .int .i64 b, .int .i64 c]) := by
  refine Spec0.of_call (CallS.of_code tok func31 rfl rfl ?_)
  conv => whnf
  refine codeE_sound tok mixed _ ?_
  conv => whnf
  repeat (first | (refine ⟨rfl, ?_⟩; conv => whnf) | (refine lit_intro rfl ?_; conv => whnf) | (refine ⟨_, rfl, ?_⟩; conv => whnf) | (refine ⟨Nat.le_of_ble_eq_true rfl, ?_⟩; conv => whnf) | (refine ⟨fun h => h, ?_⟩; conv => whnf) | (refine ⟨_, fun _ => rfl, ?_⟩; conv => whnf) | (refine ⟨fun _ => rfl, ?_⟩; conv => whnf) | (refine ⟨fun h => congrArg Bool.not h, ?_⟩; conv => whnf) | (refine ⟨fun _ => of_decide_eq_true rfl, ?_⟩; conv => whnf) | (refine ⟨of_decide_eq_true rfl, ?_⟩; conv => whnf) | (refine ⟨⟨of_decide_eq_true rfl, of_decide_eq_true rfl⟩, ?_⟩; conv => whnf) | (refine ⟨⟨of_decide_eq_true rfl, of_decide_eq_true rfl, of_decide_eq_true rfl⟩, ?_⟩; conv => whnf) | (refine ⟨⟨of_decide_eq_true rfl, of_decide_eq_true rfl, of_decide_eq_true rfl, of_decide_eq_true rfl⟩, ?_⟩; conv => whnf) | (refine ⟨⟨by omega, by omega⟩, ?_⟩; conv => whnf) | (refine ⟨fun h => ⟨by omega, by omega⟩, ?_⟩; conv => whnf) | (refine ⟨fun _ => Nat.le_of_ble_eq_true rfl, ?_⟩; conv => whnf) | fail)
  exact VLe.refl _
def fitsV (r n : Int) : Bool := if r = 0 then decide (0 ≤ n ∧ n ≤ 1099511627776) else decide (0 ≤ n ∧ n ≤ 1125899906842624)
theorem fits_ (r n : Int) : Spec0 prog 30 [.int .i64 r, .int .i64 n] (.bool (fitsV r n)) := by
  refine Spec0.of_call (CallS.of_code tok func30 rfl rfl ?_)
  conv => whnf
  refine codeE_sound tok mixed _ ?_
  conv => whnf
  repeat (first | (refine ⟨rfl, ?_⟩; conv => whnf) | (refine lit_intro rfl ?_; conv => whnf) | (refine ⟨_, rfl, ?_⟩; conv => whnf) | (refine ⟨Nat.le_of_ble_eq_true rfl, ?_⟩; conv => whnf) | (refine ⟨fun h => h, ?_⟩; conv => whnf) | (refine ⟨_, fun _ => rfl, ?_⟩; conv => whnf) | (refine ⟨fun _ => rfl, ?_⟩; conv => whnf) | (refine ⟨fun h => congrArg Bool.not h, ?_⟩; conv => whnf) | (refine ⟨fun _ => of_decide_eq_true rfl, ?_⟩; conv => whnf) | (refine ⟨of_decide_eq_true rfl, ?_⟩; conv => whnf) | (refine ⟨⟨of_decide_eq_true rfl, of_decide_eq_true rfl⟩, ?_⟩; conv => whnf) | (refine ⟨⟨of_decide_eq_true rfl, of_decide_eq_true rfl, of_decide_eq_true rfl⟩, ?_⟩; conv => whnf) | (refine ⟨⟨of_decide_eq_true rfl, of_decide_eq_true rfl, of_decide_eq_true rfl, of_decide_eq_true rfl⟩, ?_⟩; conv => whnf) | (refine ⟨⟨by omega, by omega⟩, ?_⟩; conv => whnf) | (refine ⟨fun h => ⟨by omega, by omega⟩, ?_⟩; conv => whnf) | (refine ⟨fun _ => Nat.le_of_ble_eq_true rfl, ?_⟩; conv => whnf) | fail)
  repeat' (first | exact absurd ‹_› (by decide) | (refine ⟨rfl, ?_⟩; conv => whnf) | (refine lit_intro rfl ?_; conv => whnf) | (refine ⟨_, rfl, ?_⟩; conv => whnf) | (refine ⟨Nat.le_of_ble_eq_true rfl, ?_⟩; conv => whnf) | (refine ⟨fun h => h, ?_⟩; conv => whnf) | (refine ⟨_, fun _ => rfl, ?_⟩; conv => whnf) | (refine ⟨fun _ => rfl, ?_⟩; conv => whnf) | (refine ⟨fun h => congrArg Bool.not h, ?_⟩; conv => whnf) | (refine ⟨fun _ => of_decide_eq_true rfl, ?_⟩; conv => whnf) | (refine ⟨of_decide_eq_true rfl, ?_⟩; conv => whnf) | (refine ⟨⟨of_decide_eq_true rfl, of_decide_eq_true rfl⟩, ?_⟩; conv => whnf) | (refine ⟨⟨of_decide_eq_true rfl, of_decide_eq_true rfl, of_decide_eq_true rfl⟩, ?_⟩; conv => whnf) | (refine ⟨⟨of_decide_eq_true rfl, of_decide_eq_true rfl, of_decide_eq_true rfl, of_decide_eq_true rfl⟩, ?_⟩; conv => whnf) | (refine ⟨⟨by omega, by omega⟩, ?_⟩; conv => whnf) | (refine ⟨fun h => ⟨by omega, by omega⟩, ?_⟩; conv => whnf) | (refine ⟨fun _ => Nat.le_of_ble_eq_true rfl, ?_⟩; conv => whnf) | ((with_reducible refine br_ndec (fun h => ?_) (fun h => ?_)) <;> conv => whnf) | ((with_reducible refine br_not (fun h => ?_) (fun h => ?_)) <;> conv => whnf) | ((with_reducible refine br_dec (fun h => ?_) (fun h => ?_)) <;> conv => whnf) | (refine ⟨fun h => ?_, fun h => ?_⟩ <;> conv => whnf) | fail)
  · refine VLe.of_eq (congrArg AV.bool ?_)
    unfold fitsV
    rw [if_pos h, Bool.decide_and]
    cases decide (0 ≤ n) <;> rfl
  · refine VLe.of_eq (congrArg AV.bool ?_)
    unfold fitsV
    rw [if_neg h, Bool.decide_and]
    cases decide (0 ≤ n) <;> rfl
def bitsV (n : Int) : Bool := decide (IntKind.i64.wrap (BitVec.ofInt IntKind.i64.bits n &&& BitVec.ofInt IntKind.i64.bits 2097151).toNat = 0)
def rightW (a b c : Int) : Bool := fitsV 0 a && (fitsV 1 b && (fitsV 2 c && bitsV c))
theorem right_ (a b c : Int) : Spec0 prog 14 [.agg [.int .i64 a, .int .i64 b, .int .i64 c]] (.bool (rightW a b c)) := by
  refine Spec0.of_call (CallS.of_code tok func14 rfl rfl ?_)
  conv => whnf
  refine codeE_sound tok mixed _ ?_
  conv => whnf
  repeat (first | (refine ⟨rfl, ?_⟩; conv => whnf) | (refine lit_intro rfl ?_; conv => whnf) | (refine ⟨_, rfl, ?_⟩; conv => whnf) | (refine ⟨Nat.le_of_ble_eq_true rfl, ?_⟩; conv => whnf) | (refine ⟨fun h => h, ?_⟩; conv => whnf) | (refine ⟨_, fun _ => rfl, ?_⟩; conv => whnf) | (refine ⟨fun _ => rfl, ?_⟩; conv => whnf) | (refine ⟨fun h => congrArg Bool.not h, ?_⟩; conv => whnf) | (refine ⟨fun _ => of_decide_eq_true rfl, ?_⟩; conv => whnf) | (refine ⟨of_decide_eq_true rfl, ?_⟩; conv => whnf) | (refine ⟨⟨of_decide_eq_true rfl, of_decide_eq_true rfl⟩, ?_⟩; conv => whnf) | (refine ⟨⟨of_decide_eq_true rfl, of_decide_eq_true rfl, of_decide_eq_true rfl⟩, ?_⟩; conv => whnf) | (refine ⟨⟨of_decide_eq_true rfl, of_decide_eq_true rfl, of_decide_eq_true rfl, of_decide_eq_true rfl⟩, ?_⟩; conv => whnf) | (refine ⟨⟨by omega, by omega⟩, ?_⟩; conv => whnf) | (refine ⟨fun h => ⟨by omega, by omega⟩, ?_⟩; conv => whnf) | (refine ⟨fun _ => Nat.le_of_ble_eq_true rfl, ?_⟩; conv => whnf) | fail)
  refine CallS.of_spec0 rfl (parts_ ..) ?_
  conv => whnf
  repeat (first | (refine ⟨rfl, ?_⟩; conv => whnf) | (refine lit_intro rfl ?_; conv => whnf) | (refine ⟨_, rfl, ?_⟩; conv => whnf) | (refine ⟨Nat.le_of_ble_eq_true rfl, ?_⟩; conv => whnf) | (refine ⟨fun h => h, ?_⟩; conv => whnf) | (refine ⟨_, fun _ => rfl, ?_⟩; conv => whnf) | (refine ⟨fun _ => rfl, ?_⟩; conv => whnf) | (refine ⟨fun h => congrArg Bool.not h, ?_⟩; conv => whnf) | (refine ⟨fun _ => of_decide_eq_true rfl, ?_⟩; conv => whnf) | (refine ⟨of_decide_eq_true rfl, ?_⟩; conv => whnf) | (refine ⟨⟨of_decide_eq_true rfl, of_decide_eq_true rfl⟩, ?_⟩; conv => whnf) | (refine ⟨⟨of_decide_eq_true rfl, of_decide_eq_true rfl, of_decide_eq_true rfl⟩, ?_⟩; conv => whnf) | (refine ⟨⟨of_decide_eq_true rfl, of_decide_eq_true rfl, of_decide_eq_true rfl, of_decide_eq_true rfl⟩, ?_⟩; conv => whnf) | (refine ⟨⟨by omega, by omega⟩, ?_⟩; conv => whnf) | (refine ⟨fun h => ⟨by omega, by omega⟩, ?_⟩; conv => whnf) | (refine ⟨fun _ => Nat.le_of_ble_eq_true rfl, ?_⟩; conv => whnf) | fail)
  refine roundsE_sound tok mixed (n := 4) ?_
  conv => whnf
  repeat (first | (refine ⟨rfl, ?_⟩; conv => whnf) | (refine lit_intro rfl ?_; conv => whnf) | (refine ⟨_, rfl, ?_⟩; conv => whnf) | (refine ⟨Nat.le_of_ble_eq_true rfl, ?_⟩; conv => whnf) | (refine ⟨fun h => h, ?_⟩; conv => whnf) | (refine ⟨_, fun _ => rfl, ?_⟩; conv => whnf) | (refine ⟨fun _ => rfl, ?_⟩; conv => whnf) | (refine ⟨fun h => congrArg Bool.not h, ?_⟩; conv => whnf) | (refine ⟨fun _ => of_decide_eq_true rfl, ?_⟩; conv => whnf) | (refine ⟨of_decide_eq_true rfl, ?_⟩; conv => whnf) | (refine ⟨⟨of_decide_eq_true rfl, of_decide_eq_true rfl⟩, ?_⟩; conv => whnf) | (refine ⟨⟨of_decide_eq_true rfl, of_decide_eq_true rfl, of_decide_eq_true rfl⟩, ?_⟩; conv => whnf) | (refine ⟨⟨of_decide_eq_true rfl, of_decide_eq_true rfl, of_decide_eq_true rfl, of_decide_eq_true rfl⟩, ?_⟩; conv => whnf) | (refine ⟨⟨by omega, by omega⟩, ?_⟩; conv => whnf) | (refine ⟨fun h => ⟨by omega, by omega⟩, ?_⟩; conv => whnf) | (refine ⟨fun _ => Nat.le_of_ble_eq_true rfl, ?_⟩; conv => whnf) | fail)
  repeat' (first | exact absurd ‹_› (by decide) | (refine ⟨rfl, ?_⟩; conv => whnf) | (refine lit_intro rfl ?_; conv => whnf) | (refine ⟨_, rfl, ?_⟩; conv => whnf) | (refine ⟨Nat.le_of_ble_eq_true rfl, ?_⟩; conv => whnf) | (refine ⟨fun h => h, ?_⟩; conv => whnf) | (refine ⟨_, fun _ => rfl, ?_⟩; conv => whnf) | (refine ⟨fun _ => rfl, ?_⟩; conv => whnf) | (refine ⟨fun h => congrArg Bool.not h, ?_⟩; conv => whnf) | (refine ⟨fun _ => of_decide_eq_true rfl, ?_⟩; conv => whnf) | (refine ⟨of_decide_eq_true rfl, ?_⟩; conv => whnf) | (refine ⟨⟨of_decide_eq_true rfl, of_decide_eq_true rfl⟩, ?_⟩; conv => whnf) | (refine ⟨⟨of_decide_eq_true rfl, of_decide_eq_true rfl, of_decide_eq_true rfl⟩, ?_⟩; conv => whnf) | (refine ⟨⟨of_decide_eq_true rfl, of_decide_eq_true rfl, of_decide_eq_true rfl, of_decide_eq_true rfl⟩, ?_⟩; conv => whnf) | (refine ⟨⟨by omega, by omega⟩, ?_⟩; conv => whnf) | (refine ⟨fun h => ⟨by omega, by omega⟩, ?_⟩; conv => whnf) | (refine ⟨fun _ => Nat.le_of_ble_eq_true rfl, ?_⟩; conv => whnf) | (refine CallS.of_spec0 rfl (fits_ ..) ?_; conv => whnf) | (refine ⟨_, fits_ .., ?_⟩; conv => whnf) | (refine ⟨_, fun _ => fits_ .., ?_⟩; conv => whnf) | ((with_reducible refine br_ndec (fun h => ?_) (fun h => ?_)) <;> conv => whnf) | ((with_reducible refine br_not (fun h => ?_) (fun h => ?_)) <;> conv => whnf) | ((with_reducible refine br_dec (fun h => ?_) (fun h => ?_)) <;> conv => whnf) | (refine ⟨fun h => ?_, fun h => ?_⟩ <;> conv => whnf) | fail)
  all_goals refine VLe.of_eq (congrArg AV.bool ?_)
  all_goals simp_all [rightW, bitsV]
theorem add_ (a b : Int) (ha : 0 ≤ a ∧ a ≤ 1125899906842624) (hb : 0 ≤ b ∧ b ≤ 1125899906842624) : Spec0 prog 18 [.int .i64 a, .int .i64 b] (.tup [.int .i64 (a + b), .bool true]) := by
  refine Spec0.of_call (CallS.of_code tok func18 rfl rfl ?_)
  conv => whnf
  refine codeE_sound tok mixed _ ?_
  conv => whnf
  repeat (first | (refine ⟨rfl, ?_⟩; conv => whnf) | (refine lit_intro rfl ?_; conv => whnf) | (refine ⟨_, rfl, ?_⟩; conv => whnf) | (refine ⟨Nat.le_of_ble_eq_true rfl, ?_⟩; conv => whnf) | (refine ⟨fun h => h, ?_⟩; conv => whnf) | (refine ⟨_, fun _ => rfl, ?_⟩; conv => whnf) | (refine ⟨fun _ => rfl, ?_⟩; conv => whnf) | (refine ⟨fun h => congrArg Bool.not h, ?_⟩; conv => whnf) | (refine ⟨fun _ => of_decide_eq_true rfl, ?_⟩; conv => whnf) | (refine ⟨of_decide_eq_true rfl, ?_⟩; conv => whnf) | (refine ⟨⟨of_decide_eq_true rfl, of_decide_eq_true rfl⟩, ?_⟩; conv => whnf) | (refine ⟨⟨of_decide_eq_true rfl, of_decide_eq_true rfl, of_decide_eq_true rfl⟩, ?_⟩; conv => whnf) | (refine ⟨⟨of_decide_eq_true rfl, of_decide_eq_true rfl, of_decide_eq_true rfl, of_decide_eq_true rfl⟩, ?_⟩; conv => whnf) | (refine ⟨⟨by omega, by omega⟩, ?_⟩; conv => whnf) | (refine ⟨fun h => ⟨by omega, by omega⟩, ?_⟩; conv => whnf) | (refine ⟨fun _ => Nat.le_of_ble_eq_true rfl, ?_⟩; conv => whnf) | fail)
  repeat' (first | exact absurd ‹_› (by decide) | (refine ⟨rfl, ?_⟩; conv => whnf) | (refine lit_intro rfl ?_; conv => whnf) | (refine ⟨_, rfl, ?_⟩; conv => whnf) | (refine ⟨Nat.le_of_ble_eq_true rfl, ?_⟩; conv => whnf) | (refine ⟨fun h => h, ?_⟩; conv => whnf) | (refine ⟨_, fun _ => rfl, ?_⟩; conv => whnf) | (refine ⟨fun _ => rfl, ?_⟩; conv => whnf) | (refine ⟨fun h => congrArg Bool.not h, ?_⟩; conv => whnf) | (refine ⟨fun _ => of_decide_eq_true rfl, ?_⟩; conv => whnf) | (refine ⟨of_decide_eq_true rfl, ?_⟩; conv => whnf) | (refine ⟨⟨of_decide_eq_true rfl, of_decide_eq_true rfl⟩, ?_⟩; conv => whnf) | (refine ⟨⟨of_decide_eq_true rfl, of_decide_eq_true rfl, of_decide_eq_true rfl⟩, ?_⟩; conv => whnf) | (refine ⟨⟨of_decide_eq_true rfl, of_decide_eq_true rfl, of_decide_eq_true rfl, of_decide_eq_true rfl⟩, ?_⟩; conv => whnf) | (refine ⟨⟨by omega, by omega⟩, ?_⟩; conv => whnf) | (refine ⟨fun h => ⟨by omega, by omega⟩, ?_⟩; conv => whnf) | (refine ⟨fun _ => Nat.le_of_ble_eq_true rfl, ?_⟩; conv => whnf) | ((with_reducible refine br_ndec (fun h => ?_) (fun h => ?_)) <;> conv => whnf) | ((with_reducible refine br_not (fun h => ?_) (fun h => ?_)) <;> conv => whnf) | ((with_reducible refine br_dec (fun h => ?_) (fun h => ?_)) <;> conv => whnf) | (refine ⟨fun h => ?_, fun h => ?_⟩ <;> conv => whnf) | fail)
  all_goals have e1 : IntKind.i64.wrap (IntKind.u64.wrap (IntKind.u64.wrap a + IntKind.u64.wrap b)) = a + b := by rw [u64_add, i64_u64, i64_in (by omega) (by omega)]
  all_goals simp only [e1] at h ⊢
  · rw [bv_self, bv_self] at h
    exact absurd h (Int.not_lt.2 (and_nonneg _ _ (xor_small (by omega) (by omega) (by omega) (by omega))))
  · exact VLe.refl _
theorem sub_ (a b : Int) (ha : 0 ≤ a ∧ a ≤ 1125899906842624) (hb : 0 ≤ b ∧ b ≤ 1125899906842624) : Spec0 prog 20 [.int .i64 a, .int .i64 b] (.tup [.int .i64 (a - b), .bool true]) := by
  refine Spec0.of_call (CallS.of_code tok func20 rfl rfl ?_)
  conv => whnf
  refine codeE_sound tok mixed _ ?_
  conv => whnf
  repeat (first | (refine ⟨rfl, ?_⟩; conv => whnf) | (refine lit_intro rfl ?_; conv => whnf) | (refine ⟨_, rfl, ?_⟩; conv => whnf) | (refine ⟨Nat.le_of_ble_eq_true rfl, ?_⟩; conv => whnf) | (refine ⟨fun h => h, ?_⟩; conv => whnf) | (refine ⟨_, fun _ => rfl, ?_⟩; conv => whnf) | (refine ⟨fun _ => rfl, ?_⟩; conv => whnf) | (refine ⟨fun h => congrArg Bool.not h, ?_⟩; conv => whnf) | (refine ⟨fun _ => of_decide_eq_true rfl, ?_⟩; conv => whnf) | (refine ⟨of_decide_eq_true rfl, ?_⟩; conv => whnf) | (refine ⟨⟨of_decide_eq_true rfl, of_decide_eq_true rfl⟩, ?_⟩; conv => whnf) | (refine ⟨⟨of_decide_eq_true rfl, of_decide_eq_true rfl, of_decide_eq_true rfl⟩, ?_⟩; conv => whnf) | (refine ⟨⟨of_decide_eq_true rfl, of_decide_eq_true rfl, of_decide_eq_true rfl, of_decide_eq_true rfl⟩, ?_⟩; conv => whnf) | (refine ⟨⟨by omega, by omega⟩, ?_⟩; conv => whnf) | (refine ⟨fun h => ⟨by omega, by omega⟩, ?_⟩; conv => whnf) | (refine ⟨fun _ => Nat.le_of_ble_eq_true rfl, ?_⟩; conv => whnf) | fail)
  repeat' (first | exact absurd ‹_› (by decide) | (refine ⟨rfl, ?_⟩; conv => whnf) | (refine lit_intro rfl ?_; conv => whnf) | (refine ⟨_, rfl, ?_⟩; conv => whnf) | (refine ⟨Nat.le_of_ble_eq_true rfl, ?_⟩; conv => whnf) | (refine ⟨fun h => h, ?_⟩; conv => whnf) | (refine ⟨_, fun _ => rfl, ?_⟩; conv => whnf) | (refine ⟨fun _ => rfl, ?_⟩; conv => whnf) | (refine ⟨fun h => congrArg Bool.not h, ?_⟩; conv => whnf) | (refine ⟨fun _ => of_decide_eq_true rfl, ?_⟩; conv => whnf) | (refine ⟨of_decide_eq_true rfl, ?_⟩; conv => whnf) | (refine ⟨⟨of_decide_eq_true rfl, of_decide_eq_true rfl⟩, ?_⟩; conv => whnf) | (refine ⟨⟨of_decide_eq_true rfl, of_decide_eq_true rfl, of_decide_eq_true rfl⟩, ?_⟩; conv => whnf) | (refine ⟨⟨of_decide_eq_true rfl, of_decide_eq_true rfl, of_decide_eq_true rfl, of_decide_eq_true rfl⟩, ?_⟩; conv => whnf) | (refine ⟨⟨by omega, by omega⟩, ?_⟩; conv => whnf) | (refine ⟨fun h => ⟨by omega, by omega⟩, ?_⟩; conv => whnf) | (refine ⟨fun _ => Nat.le_of_ble_eq_true rfl, ?_⟩; conv => whnf) | ((with_reducible refine br_ndec (fun h => ?_) (fun h => ?_)) <;> conv => whnf) | ((with_reducible refine br_not (fun h => ?_) (fun h => ?_)) <;> conv => whnf) | ((with_reducible refine br_dec (fun h => ?_) (fun h => ?_)) <;> conv => whnf) | (refine ⟨fun h => ?_, fun h => ?_⟩ <;> conv => whnf) | fail)
  all_goals have e1 : IntKind.i64.wrap (IntKind.u64.wrap (IntKind.u64.wrap a - IntKind.u64.wrap b)) = a - b := by rw [u64_sub, i64_u64, i64_in (by omega) (by omega)]
  all_goals simp only [e1] at h ⊢
  · rw [bv_self, bv_self] at h
    exact absurd h (Int.not_lt.2 (and_nonneg _ _ (xor_small (by omega) (by omega) (by omega) (by omega))))
  · exact VLe.refl _
theorem rightW_spec {a b c : Int} (h : rightW a b c = true) : (0 ≤ a ∧ a ≤ 1125899906842624) ∧ (0 ≤ b ∧ b ≤ 1125899906842624) ∧ (0 ≤ c ∧ c ≤ 1125899906842624) := by
  simp [rightW, fitsV] at h
  omega
def both (op : Int → Int → Int) (a b c d e f : Int) : (Int × Int × Int) × Bool :=
  if rightW a b c && rightW d e f && rightW (op a d) (op b e) (op c f) then ((op a d, op b e, op c f), true) else ((0, 0, 0), false)
theorem both_ (k : Nat) (op : Int → Int → Int) (hj : ∀ x y : Int, (0 ≤ x ∧ x ≤ 1125899906842624) → (0 ≤ y ∧ y ≤ 1125899906842624) → Spec0 prog k [.int .i64 x, .int .i64 y] (.tup [.int .i64 (op x y), .bool true]))
    (a b c d e f : Int) : Spec0 prog 17 [.agg [.int .i64 a, .int .i64 b, .int .i64 c], .agg [.int .i64 d, .int .i64 e, .int .i64 f], .fn (.func k) [] []]
      (.tup [.agg [.int .i64 (both op a b c d e f).1.1, .int .i64 (both op a b c d e f).1.2.1, .int .i64 (both op a b c d e f).1.2.2], .bool (both op a b c d e f).2]) := by
  refine Spec0.of_call (CallS.of_code tok func17 rfl rfl ?_)
  conv => whnf
  refine codeE_sound tok mixed _ ?_
  conv => whnf
  repeat (first | (refine ⟨rfl, ?_⟩; conv => whnf) | (refine lit_intro rfl ?_; conv => whnf) | (refine ⟨_, rfl, ?_⟩; conv => whnf) | (refine ⟨Nat.le_of_ble_eq_true rfl, ?_⟩; conv => whnf) | (refine ⟨fun h => h, ?_⟩; conv => whnf) | (refine ⟨_, fun _ => rfl, ?_⟩; conv => whnf) | (refine ⟨fun _ => rfl, ?_⟩; conv => whnf) | (refine ⟨fun h => congrArg Bool.not h, ?_⟩; conv => whnf) | (refine ⟨fun _ => of_decide_eq_true rfl, ?_⟩; conv => whnf) | (refine ⟨of_decide_eq_true rfl, ?_⟩; conv => whnf) | (refine ⟨⟨of_decide_eq_true rfl, of_decide_eq_true rfl⟩, ?_⟩; conv => whnf) | (refine ⟨⟨of_decide_eq_true rfl, of_decide_eq_true rfl, of_decide_eq_true rfl⟩, ?_⟩; conv => whnf) | (refine ⟨⟨of_decide_eq_true rfl, of_decide_eq_true rfl, of_decide_eq_true rfl, of_decide_eq_true rfl⟩, ?_⟩; conv => whnf) | (refine ⟨⟨by omega, by omega⟩, ?_⟩; conv => whnf) | (refine ⟨fun h => ⟨by omega, by omega⟩, ?_⟩; conv => whnf) | (refine ⟨fun _ => Nat.le_of_ble_eq_true rfl, ?_⟩; conv => whnf) | fail)
  repeat' (first | exact absurd ‹_› (by decide) | (refine ⟨rfl, ?_⟩; conv => whnf) | (refine lit_intro rfl ?_; conv => whnf) | (refine ⟨_, rfl, ?_⟩; conv => whnf) | (refine ⟨Nat.le_of_ble_eq_true rfl, ?_⟩; conv => whnf) | (refine ⟨fun h => h, ?_⟩; conv => whnf) | (refine ⟨_, fun _ => rfl, ?_⟩; conv => whnf) | (refine ⟨fun _ => rfl, ?_⟩; conv => whnf) | (refine ⟨fun h => congrArg Bool.not h, ?_⟩; conv => whnf) | (refine ⟨fun _ => of_decide_eq_true rfl, ?_⟩; conv => whnf) | (refine ⟨of_decide_eq_true rfl, ?_⟩; conv => whnf) | (refine ⟨⟨of_decide_eq_true rfl, of_decide_eq_true rfl⟩, ?_⟩; conv => whnf) | (refine ⟨⟨of_decide_eq_true rfl, of_decide_eq_true rfl, of_decide_eq_true rfl⟩, ?_⟩; conv => whnf) | (refine ⟨⟨of_decide_eq_true rfl, of_decide_eq_true rfl, of_decide_eq_true rfl, of_decide_eq_true rfl⟩, ?_⟩; conv => whnf) | (refine ⟨⟨by omega, by omega⟩, ?_⟩; conv => whnf) | (refine ⟨fun h => ⟨by omega, by omega⟩, ?_⟩; conv => whnf) | (refine ⟨fun _ => Nat.le_of_ble_eq_true rfl, ?_⟩; conv => whnf) | (refine CallS.of_spec0 rfl (right_ ..) ?_; conv => whnf) | (refine CallS.of_spec0 rfl (parts_ ..) ?_; conv => whnf) | (refine CallS.of_spec0 rfl (of_ ..) ?_; conv => whnf) | (refine ⟨_, right_ .., ?_⟩; conv => whnf) | (refine ⟨_, fun _ => right_ .., ?_⟩; conv => whnf) | (refine ⟨_, parts_ .., ?_⟩; conv => whnf) | (refine ⟨_, fun _ => parts_ .., ?_⟩; conv => whnf) | (refine ⟨_, of_ .., ?_⟩; conv => whnf) | (refine ⟨_, fun _ => of_ .., ?_⟩; conv => whnf) | ((with_reducible refine br_ndec (fun h => ?_) (fun h => ?_)) <;> conv => whnf) | ((with_reducible refine br_not (fun h => ?_) (fun h => ?_)) <;> conv => whnf) | ((with_reducible refine br_dec (fun h => ?_) (fun h => ?_)) <;> conv => whnf) | (refine ⟨fun h => ?_, fun h => ?_⟩ <;> conv => whnf) | fail)
  · have h0 : (rightW a b c && rightW d e f) = false := by
      revert h
      cases rightW a b c <;> cases rightW d e f <;> simp
    simp only [both, h0, Bool.false_and, Bool.false_eq_true, if_false]
    exact VLe.refl _
  · have h0 : rightW a b c = true ∧ rightW d e f = true := by
      revert h
      cases rightW a b c <;> cases rightW d e f <;> simp
    obtain ⟨a1, b1, c1⟩ := rightW_spec h0.1
    obtain ⟨d1, e1, f1⟩ := rightW_spec h0.2
    have j1 := hj a d a1 d1
    have j2 := hj b e b1 e1
    have j3 := hj c f c1 f1
    refine roundsE_sound tok mixed (n := 4) ?_
    conv => whnf
    repeat (first | (refine ⟨rfl, ?_⟩; conv => whnf) | (refine lit_intro rfl ?_; conv => whnf) | (refine ⟨_, rfl, ?_⟩; conv => whnf) | (refine ⟨Nat.le_of_ble_eq_true rfl, ?_⟩; conv => whnf) | (refine ⟨fun h => h, ?_⟩; conv => whnf) | (refine ⟨_, fun _ => rfl, ?_⟩; conv => whnf) | (refine ⟨fun _ => rfl, ?_⟩; conv => whnf) | (refine ⟨fun h => congrArg Bool.not h, ?_⟩; conv => whnf) | (refine ⟨fun _ => of_decide_eq_true rfl, ?_⟩; conv => whnf) | (refine ⟨of_decide_eq_true rfl, ?_⟩; conv => whnf) | (refine ⟨⟨of_decide_eq_true rfl, of_decide_eq_true rfl⟩, ?_⟩; conv => whnf) | (refine ⟨⟨of_decide_eq_true rfl, of_decide_eq_true rfl, of_decide_eq_true rfl⟩, ?_⟩; conv => whnf) | (refine ⟨⟨of_decide_eq_true rfl, of_decide_eq_true rfl, of_decide_eq_true rfl, of_decide_eq_true rfl⟩, ?_⟩; conv => whnf) | (refine ⟨⟨by omega, by omega⟩, ?_⟩; conv => whnf) | (refine ⟨fun h => ⟨by omega, by omega⟩, ?_⟩; conv => whnf) | (refine ⟨fun _ => Nat.le_of_ble_eq_true rfl, ?_⟩; conv => whnf) | fail)
    repeat' (first | exact absurd ‹_› (by decide) | (refine ⟨rfl, ?_⟩; conv => whnf) | (refine lit_intro rfl ?_; conv => whnf) | (refine ⟨_, rfl, ?_⟩; conv => whnf) | (refine ⟨Nat.le_of_ble_eq_true rfl, ?_⟩; conv => whnf) | (refine ⟨fun h => h, ?_⟩; conv => whnf) | (refine ⟨_, fun _ => rfl, ?_⟩; conv => whnf) | (refine ⟨fun _ => rfl, ?_⟩; conv => whnf) | (refine ⟨fun h => congrArg Bool.not h, ?_⟩; conv => whnf) | (refine ⟨fun _ => of_decide_eq_true rfl, ?_⟩; conv => whnf) | (refine ⟨of_decide_eq_true rfl, ?_⟩; conv => whnf) | (refine ⟨⟨of_decide_eq_true rfl, of_decide_eq_true rfl⟩, ?_⟩; conv => whnf) | (refine ⟨⟨of_decide_eq_true rfl, of_decide_eq_true rfl, of_decide_eq_true rfl⟩, ?_⟩; conv => whnf) | (refine ⟨⟨of_decide_eq_true rfl, of_decide_eq_true rfl, of_decide_eq_true rfl, of_decide_eq_true rfl⟩, ?_⟩; conv => whnf) | (refine ⟨⟨by omega, by omega⟩, ?_⟩; conv => whnf) | (refine ⟨fun h => ⟨by omega, by omega⟩, ?_⟩; conv => whnf) | (refine ⟨fun _ => Nat.le_of_ble_eq_true rfl, ?_⟩; conv => whnf) | (refine CallS.of_spec0 rfl (j1 ..) ?_; conv => whnf) | (refine CallS.of_spec0 rfl (j2 ..) ?_; conv => whnf) | (refine CallS.of_spec0 rfl (j3 ..) ?_; conv => whnf) | (refine CallS.of_spec0 rfl (right_ ..) ?_; conv => whnf) | (refine CallS.of_spec0 rfl (of_ ..) ?_; conv => whnf) | (refine ⟨_, j1 .., ?_⟩; conv => whnf) | (refine ⟨_, fun _ => j1 .., ?_⟩; conv => whnf) | (refine ⟨_, j2 .., ?_⟩; conv => whnf) | (refine ⟨_, fun _ => j2 .., ?_⟩; conv => whnf) | (refine ⟨_, j3 .., ?_⟩; conv => whnf) | (refine ⟨_, fun _ => j3 .., ?_⟩; conv => whnf) | (refine ⟨_, right_ .., ?_⟩; conv => whnf) | (refine ⟨_, fun _ => right_ .., ?_⟩; conv => whnf) | (refine ⟨_, of_ .., ?_⟩; conv => whnf) | (refine ⟨_, fun _ => of_ .., ?_⟩; conv => whnf) | ((with_reducible refine br_ndec (fun h => ?_) (fun h => ?_)) <;> conv => whnf) | ((with_reducible refine br_not (fun h => ?_) (fun h => ?_)) <;> conv => whnf) | ((with_reducible refine br_dec (fun h => ?_) (fun h => ?_)) <;> conv => whnf) | (refine ⟨fun h => ?_, fun h => ?_⟩ <;> conv => whnf) | fail)
    all_goals simp only [both, h0.1, h0.2, Bool.true_and, h, if_true, Bool.false_eq_true, if_false]
    all_goals exact VLe.refl _
def rightR (a b c : Int) : Bool := decide (0 ≤ a ∧ a ≤ 1099511627776 ∧ 0 ≤ b ∧ b ≤ 1125899906842624 ∧ 0 ≤ c ∧ c ≤ 1125899906842624 ∧ c.tmod 2097152 = 0)
theorem rright_ (a b c : Int) : Spec0 prog 19 [.agg [.int .i64 a, .int .i64 b, .int .i64 c]] (.bool (rightR a b c)) := by
  refine Spec0.of_call (CallS.of_code tok func19 rfl rfl ?_)
  conv => whnf
  refine codeE_sound tok mixed _ ?_
  conv => whnf
  repeat (first | (refine ⟨rfl, ?_⟩; conv => whnf) | (refine lit_intro rfl ?_; conv => whnf) | (refine ⟨_, rfl, ?_⟩; conv => whnf) | (refine ⟨Nat.le_of_ble_eq_true rfl, ?_⟩; conv => whnf) | (refine ⟨fun h => h, ?_⟩; conv => whnf) | (refine ⟨_, fun _ => rfl, ?_⟩; conv => whnf) | (refine ⟨fun _ => rfl, ?_⟩; conv => whnf) | (refine ⟨fun h => congrArg Bool.not h, ?_⟩; conv => whnf) | (refine ⟨fun _ => of_decide_eq_true rfl, ?_⟩; conv => whnf) | (refine ⟨of_decide_eq_true rfl, ?_⟩; conv => whnf) | (refine ⟨⟨of_decide_eq_true rfl, of_decide_eq_true rfl⟩, ?_⟩; conv => whnf) | (refine ⟨⟨of_decide_eq_true rfl, of_decide_eq_true rfl, of_decide_eq_true rfl⟩, ?_⟩; conv => whnf) | (refine ⟨⟨of_decide_eq_true rfl, of_decide_eq_true rfl, of_decide_eq_true rfl, of_decide_eq_true rfl⟩, ?_⟩; conv => whnf) | (refine ⟨⟨by omega, by omega⟩, ?_⟩; conv => whnf) | (refine ⟨fun h => ⟨by omega, by omega⟩, ?_⟩; conv => whnf) | (refine ⟨fun _ => Nat.le_of_ble_eq_true rfl, ?_⟩; conv => whnf) | fail)
  repeat' (first | exact absurd ‹_› (by decide) | (refine ⟨rfl, ?_⟩; conv => whnf) | (refine lit_intro rfl ?_; conv => whnf) | (refine ⟨_, rfl, ?_⟩; conv => whnf) | (refine ⟨Nat.le_of_ble_eq_true rfl, ?_⟩; conv => whnf) | (refine ⟨fun h => h, ?_⟩; conv => whnf) | (refine ⟨_, fun _ => rfl, ?_⟩; conv => whnf) | (refine ⟨fun _ => rfl, ?_⟩; conv => whnf) | (refine ⟨fun h => congrArg Bool.not h, ?_⟩; conv => whnf) | (refine ⟨fun _ => of_decide_eq_true rfl, ?_⟩; conv => whnf) | (refine ⟨of_decide_eq_true rfl, ?_⟩; conv => whnf) | (refine ⟨⟨of_decide_eq_true rfl, of_decide_eq_true rfl⟩, ?_⟩; conv => whnf) | (refine ⟨⟨of_decide_eq_true rfl, of_decide_eq_true rfl, of_decide_eq_true rfl⟩, ?_⟩; conv => whnf) | (refine ⟨⟨of_decide_eq_true rfl, of_decide_eq_true rfl, of_decide_eq_true rfl, of_decide_eq_true rfl⟩, ?_⟩; conv => whnf) | (refine ⟨⟨by omega, by omega⟩, ?_⟩; conv => whnf) | (refine ⟨fun h => ⟨by omega, by omega⟩, ?_⟩; conv => whnf) | (refine ⟨fun _ => Nat.le_of_ble_eq_true rfl, ?_⟩; conv => whnf) | ((with_reducible refine br_ndec (fun h => ?_) (fun h => ?_)) <;> conv => whnf) | ((with_reducible refine br_not (fun h => ?_) (fun h => ?_)) <;> conv => whnf) | ((with_reducible refine br_dec (fun h => ?_) (fun h => ?_)) <;> conv => whnf) | (refine ⟨fun h => ?_, fun h => ?_⟩ <;> conv => whnf) | fail)
  refine VLe.of_eq (congrArg AV.bool ?_)
  simp [rightR, Bool.decide_and, Bool.and_assoc]
theorem bits_mod {c : Int} (h : 0 ≤ c ∧ c ≤ 1125899906842624) : bitsV c = decide (c.tmod 2097152 = 0) := by
  unfold bitsV
  rw [BitVec.toNat_and, bv_small (by omega) (by omega), bv_small (by omega) (by omega)]
  have e : c.toNat &&& (2097151 : Int).toNat = c.toNat % 2 ^ 21 := Nat.and_two_pow_sub_one_eq_mod c.toNat 21
  rw [e, i64_in (by omega) (by omega)]
  congr 1
  have : c.tmod 2097152 = c % 2097152 := Int.tmod_eq_emod_of_nonneg h.1
  rw [this]
  apply propext
  omega
theorem right_eq (a b c : Int) : rightW a b c = rightR a b c := by
  by_cases h : 0 ≤ c ∧ c ≤ 1125899906842624
  · simp only [rightW, bits_mod h, fitsV, rightR]
    simp [Bool.decide_and, Bool.and_assoc]
  · have h2 : fitsV 2 c = false := by simp [fitsV]; omega
    simp only [rightW, h2, rightR, Bool.false_and, Bool.and_false]
    simp
    omega
theorem vadd_ (a b c d e f : Int) : Spec0 prog 5 [.agg [.int .i64 a, .int .i64 b, .int .i64 c], .agg [.int .i64 d, .int .i64 e, .int .i64 f]]
      (.tup [.agg [.int .i64 (both (· + ·) a b c d e f).1.1, .int .i64 (both (· + ·) a b c d e f).1.2.1, .int .i64 (both (· + ·) a b c d e f).1.2.2], .bool (both (· + ·) a b c d e f).2]) := by
  refine Spec0.of_call (CallS.of_code tok func5 rfl rfl ?_)
  conv => whnf
  refine codeE_sound tok mixed _ ?_
  conv => whnf
  repeat (first | (refine ⟨rfl, ?_⟩; conv => whnf) | (refine lit_intro rfl ?_; conv => whnf) | (refine ⟨_, rfl, ?_⟩; conv => whnf) | (refine ⟨Nat.le_of_ble_eq_true rfl, ?_⟩; conv => whnf) | (refine ⟨fun h => h, ?_⟩; conv => whnf) | (refine ⟨_, fun _ => rfl, ?_⟩; conv => whnf) | (refine ⟨fun _ => rfl, ?_⟩; conv => whnf) | (refine ⟨fun h => congrArg Bool.not h, ?_⟩; conv => whnf) | (refine ⟨fun _ => of_decide_eq_true rfl, ?_⟩; conv => whnf) | (refine ⟨of_decide_eq_true rfl, ?_⟩; conv => whnf) | (refine ⟨⟨of_decide_eq_true rfl, of_decide_eq_true rfl⟩, ?_⟩; conv => whnf) | (refine ⟨⟨of_decide_eq_true rfl, of_decide_eq_true rfl, of_decide_eq_true rfl⟩, ?_⟩; conv => whnf) | (refine ⟨⟨of_decide_eq_true rfl, of_decide_eq_true rfl, of_decide_eq_true rfl, of_decide_eq_true rfl⟩, ?_⟩; conv => whnf) | (refine ⟨⟨by omega, by omega⟩, ?_⟩; conv => whnf) | (refine ⟨fun h => ⟨by omega, by omega⟩, ?_⟩; conv => whnf) | (refine ⟨fun _ => Nat.le_of_ble_eq_true rfl, ?_⟩; conv => whnf) | fail)
  have hb := both_ 18 (· + ·) add_
  repeat' (first | exact absurd ‹_› (by decide) | (refine ⟨rfl, ?_⟩; conv => whnf) | (refine lit_intro rfl ?_; conv => whnf) | (refine ⟨_, rfl, ?_⟩; conv => whnf) | (refine ⟨Nat.le_of_ble_eq_true rfl, ?_⟩; conv => whnf) | (refine ⟨fun h => h, ?_⟩; conv => whnf) | (refine ⟨_, fun _ => rfl, ?_⟩; conv => whnf) | (refine ⟨fun _ => rfl, ?_⟩; conv => whnf) | (refine ⟨fun h => congrArg Bool.not h, ?_⟩; conv => whnf) | (refine ⟨fun _ => of_decide_eq_true rfl, ?_⟩; conv => whnf) | (refine ⟨of_decide_eq_true rfl, ?_⟩; conv => whnf) | (refine ⟨⟨of_decide_eq_true rfl, of_decide_eq_true rfl⟩, ?_⟩; conv => whnf) | (refine ⟨⟨of_decide_eq_true rfl, of_decide_eq_true rfl, of_decide_eq_true rfl⟩, ?_⟩; conv => whnf) | (refine ⟨⟨of_decide_eq_true rfl, of_decide_eq_true rfl, of_decide_eq_true rfl, of_decide_eq_true rfl⟩, ?_⟩; conv => whnf) | (refine ⟨⟨by omega, by omega⟩, ?_⟩; conv => whnf) | (refine ⟨fun h => ⟨by omega, by omega⟩, ?_⟩; conv => whnf) | (refine ⟨fun _ => Nat.le_of_ble_eq_true rfl, ?_⟩; conv => whnf) | (refine CallS.of_spec0 rfl (hb ..) ?_; conv => whnf) | (refine ⟨_, hb .., ?_⟩; conv => whnf) | (refine ⟨_, fun _ => hb .., ?_⟩; conv => whnf) | ((with_reducible refine br_ndec (fun h => ?_) (fun h => ?_)) <;> conv => whnf) | ((with_reducible refine br_not (fun h => ?_) (fun h => ?_)) <;> conv => whnf) | ((with_reducible refine br_dec (fun h => ?_) (fun h => ?_)) <;> conv => whnf) | (refine ⟨fun h => ?_, fun h => ?_⟩ <;> conv => whnf) | fail)
  all_goals exact VLe.refl _
theorem vsub_ (a b c d e f : Int) : Spec0 prog 7 [.agg [.int .i64 a, .int .i64 b, .int .i64 c], .agg [.int .i64 d, .int .i64 e, .int .i64 f]]
      (.tup [.agg [.int .i64 (both (· - ·) a b c d e f).1.1, .int .i64 (both (· - ·) a b c d e f).1.2.1, .int .i64 (both (· - ·) a b c d e f).1.2.2], .bool (both (· - ·) a b c d e f).2]) := by
  refine Spec0.of_call (CallS.of_code tok func7 rfl rfl ?_)
  conv => whnf
  refine codeE_sound tok mixed _ ?_
  conv => whnf
  repeat (first | (refine ⟨rfl, ?_⟩; conv => whnf) | (refine lit_intro rfl ?_; conv => whnf) | (refine ⟨_, rfl, ?_⟩; conv => whnf) | (refine ⟨Nat.le_of_ble_eq_true rfl, ?_⟩; conv => whnf) | (refine ⟨fun h => h, ?_⟩; conv => whnf) | (refine ⟨_, fun _ => rfl, ?_⟩; conv => whnf) | (refine ⟨fun _ => rfl, ?_⟩; conv => whnf) | (refine ⟨fun h => congrArg Bool.not h, ?_⟩; conv => whnf) | (refine ⟨fun _ => of_decide_eq_true rfl, ?_⟩; conv => whnf) | (refine ⟨of_decide_eq_true rfl, ?_⟩; conv => whnf) | (refine ⟨⟨of_decide_eq_true rfl, of_decide_eq_true rfl⟩, ?_⟩; conv => whnf) | (refine ⟨⟨of_decide_eq_true rfl, of_decide_eq_true rfl, of_decide_eq_true rfl⟩, ?_⟩; conv => whnf) | (refine ⟨⟨of_decide_eq_true rfl, of_decide_eq_true rfl, of_decide_eq_true rfl, of_decide_eq_true rfl⟩, ?_⟩; conv => whnf) | (refine ⟨⟨by omega, by omega⟩, ?_⟩; conv => whnf) | (refine ⟨fun h => ⟨by omega, by omega⟩, ?_⟩; conv => whnf) | (refine ⟨fun _ => Nat.le_of_ble_eq_true rfl, ?_⟩; conv => whnf) | fail)
  have hb := both_ 20 (· - ·) sub_
  repeat' (first | exact absurd ‹_› (by decide) | (refine ⟨rfl, ?_⟩; conv => whnf) | (refine lit_intro rfl ?_; conv => whnf) | (refine ⟨_, rfl, ?_⟩; conv => whnf) | (refine ⟨Nat.le_of_ble_eq_true rfl, ?_⟩; conv => whnf) | (refine ⟨fun h => h, ?_⟩; conv => whnf) | (refine ⟨_, fun _ => rfl, ?_⟩; conv => whnf) | (refine ⟨fun _ => rfl, ?_⟩; conv => whnf) | (refine ⟨fun h => congrArg Bool.not h, ?_⟩; conv => whnf) | (refine ⟨fun _ => of_decide_eq_true rfl, ?_⟩; conv => whnf) | (refine ⟨of_decide_eq_true rfl, ?_⟩; conv => whnf) | (refine ⟨⟨of_decide_eq_true rfl, of_decide_eq_true rfl⟩, ?_⟩; conv => whnf) | (refine ⟨⟨of_decide_eq_true rfl, of_decide_eq_true rfl, of_decide_eq_true rfl⟩, ?_⟩; conv => whnf) | (refine ⟨⟨of_decide_eq_true rfl, of_decide_eq_true rfl, of_decide_eq_true rfl, of_decide_eq_true rfl⟩, ?_⟩; conv => whnf) | (refine ⟨⟨by omega, by omega⟩, ?_⟩; conv => whnf) | (refine ⟨fun h => ⟨by omega, by omega⟩, ?_⟩; conv => whnf) | (refine ⟨fun _ => Nat.le_of_ble_eq_true rfl, ?_⟩; conv => whnf) | (refine CallS.of_spec0 rfl (hb ..) ?_; conv => whnf) | (refine ⟨_, hb .., ?_⟩; conv => whnf) | (refine ⟨_, fun _ => hb .., ?_⟩; conv => whnf) | ((with_reducible refine br_ndec (fun h => ?_) (fun h => ?_)) <;> conv => whnf) | ((with_reducible refine br_not (fun h => ?_) (fun h => ?_)) <;> conv => whnf) | ((with_reducible refine br_dec (fun h => ?_) (fun h => ?_)) <;> conv => whnf) | (refine ⟨fun h => ?_, fun h => ?_⟩ <;> conv => whnf) | fail)
  all_goals exact VLe.refl _
theorem ref_ends {op : Int → Int → Int} (a b c d e f : Int)
    (hop : ∀ x y : Int, (0 ≤ x ∧ x ≤ 1125899906842624) → (0 ≤ y ∧ y ≤ 1125899906842624) → IntKind.i64.wrap (op x y) = op x y) (h : (bif !rightR a b c then true else !rightR d e f) = false) :
    (IntKind.i64.wrap (op a d) = op a d ∧ IntKind.i64.wrap (op b e) = op b e ∧ IntKind.i64.wrap (op c f) = op c f) ∧ rightW a b c = true ∧ rightW d e f = true := by
  have h0 : rightW a b c = true ∧ rightW d e f = true := by
    rw [right_eq, right_eq]
    revert h
    cases rightR a b c <;> cases rightR d e f <;> simp
  obtain ⟨a1, b1, c1⟩ := rightW_spec h0.1
  obtain ⟨d1, e1, f1⟩ := rightW_spec h0.2
  exact ⟨⟨hop _ _ a1 d1, hop _ _ b1 e1, hop _ _ c1 f1⟩, h0⟩
theorem radd_ (a b c d e f : Int) : Spec0 prog 6 [.agg [.int .i64 a, .int .i64 b, .int .i64 c], .agg [.int .i64 d, .int .i64 e, .int .i64 f]]
      (.tup [.agg [.int .i64 (both (· + ·) a b c d e f).1.1, .int .i64 (both (· + ·) a b c d e f).1.2.1, .int .i64 (both (· + ·) a b c d e f).1.2.2], .bool (both (· + ·) a b c d e f).2]) := by
  refine Spec0.of_call (CallS.of_code tok func6 rfl rfl ?_)
  conv => whnf
  refine codeE_sound tok mixed _ ?_
  conv => whnf
  repeat (first | (refine ⟨rfl, ?_⟩; conv => whnf) | (refine lit_intro rfl ?_; conv => whnf) | (refine ⟨_, rfl, ?_⟩; conv => whnf) | (refine ⟨Nat.le_of_ble_eq_true rfl, ?_⟩; conv => whnf) | (refine ⟨fun h => h, ?_⟩; conv => whnf) | (refine ⟨_, fun _ => rfl, ?_⟩; conv => whnf) | (refine ⟨fun _ => rfl, ?_⟩; conv => whnf) | (refine ⟨fun h => congrArg Bool.not h, ?_⟩; conv => whnf) | (refine ⟨fun _ => of_decide_eq_true rfl, ?_⟩; conv => whnf) | (refine ⟨of_decide_eq_true rfl, ?_⟩; conv => whnf) | (refine ⟨⟨of_decide_eq_true rfl, of_decide_eq_true rfl⟩, ?_⟩; conv => whnf) | (refine ⟨⟨of_decide_eq_true rfl, of_decide_eq_true rfl, of_decide_eq_true rfl⟩, ?_⟩; conv => whnf) | (refine ⟨⟨of_decide_eq_true rfl, of_decide_eq_true rfl, of_decide_eq_true rfl, of_decide_eq_true rfl⟩, ?_⟩; conv => whnf) | (refine ⟨⟨by omega, by omega⟩, ?_⟩; conv => whnf) | (refine ⟨fun h => ⟨by omega, by omega⟩, ?_⟩; conv => whnf) | (refine ⟨fun _ => Nat.le_of_ble_eq_true rfl, ?_⟩; conv => whnf) | fail)
  repeat' (first | exact absurd ‹_› (by decide) | (refine ⟨rfl, ?_⟩; conv => whnf) | (refine lit_intro rfl ?_; conv => whnf) | (refine ⟨_, rfl, ?_⟩; conv => whnf) | (refine ⟨Nat.le_of_ble_eq_true rfl, ?_⟩; conv => whnf) | (refine ⟨fun h => h, ?_⟩; conv => whnf) | (refine ⟨_, fun _ => rfl, ?_⟩; conv => whnf) | (refine ⟨fun _ => rfl, ?_⟩; conv => whnf) | (refine ⟨fun h => congrArg Bool.not h, ?_⟩; conv => whnf) | (refine ⟨fun _ => of_decide_eq_true rfl, ?_⟩; conv => whnf) | (refine ⟨of_decide_eq_true rfl, ?_⟩; conv => whnf) | (refine ⟨⟨of_decide_eq_true rfl, of_decide_eq_true rfl⟩, ?_⟩; conv => whnf) | (refine ⟨⟨of_decide_eq_true rfl, of_decide_eq_true rfl, of_decide_eq_true rfl⟩, ?_⟩; conv => whnf) | (refine ⟨⟨of_decide_eq_true rfl, of_decide_eq_true rfl, of_decide_eq_true rfl, of_decide_eq_true rfl⟩, ?_⟩; conv => whnf) | (refine ⟨⟨by omega, by omega⟩, ?_⟩; conv => whnf) | (refine ⟨fun h => ⟨by omega, by omega⟩, ?_⟩; conv => whnf) | (refine ⟨fun _ => Nat.le_of_ble_eq_true rfl, ?_⟩; conv => whnf) | (refine CallS.of_spec0 rfl (rright_ ..) ?_; conv => whnf) | (refine ⟨_, rright_ .., ?_⟩; conv => whnf) | (refine ⟨_, fun _ => rright_ .., ?_⟩; conv => whnf) | ((with_reducible refine br_ndec (fun h => ?_) (fun h => ?_)) <;> conv => whnf) | ((with_reducible refine br_not (fun h => ?_) (fun h => ?_)) <;> conv => whnf) | ((with_reducible refine br_dec (fun h => ?_) (fun h => ?_)) <;> conv => whnf) | (refine ⟨fun h => ?_, fun h => ?_⟩ <;> conv => whnf) | fail)
  · have h0 : (rightW a b c && rightW d e f) = false := by
      rw [right_eq, right_eq]
      revert h
      cases rightR a b c <;> cases rightR d e f <;> simp
    simp only [both, h0, Bool.false_and, Bool.false_eq_true, if_false]
    exact VLe.refl _
  all_goals obtain ⟨⟨e1, e2, e3⟩, h1, h2⟩ := ref_ends (op := (· + ·)) a b c d e f (fun x y hx hy => i64_in (by omega) (by omega)) ‹_›
  all_goals rw [e1, e2, e3, ← right_eq] at h
  all_goals simp only [both, h1, h2, Bool.true_and]
  · rw [if_neg (by simp [h])]
    exact VLe.refl _
  · rw [if_pos h, e1, e2, e3]
    exact VLe.refl _
theorem rsub_ (a b c d e f : Int) : Spec0 prog 8 [.agg [.int .i64 a, .int .i64 b, .int .i64 c], .agg [.int .i64 d, .int .i64 e, .int .i64 f]]
      (.tup [.agg [.int .i64 (both (· - ·) a b c d e f).1.1, .int .i64 (both (· - ·) a b c d e f).1.2.1, .int .i64 (both (· - ·) a b c d e f).1.2.2], .bool (both (· - ·) a b c d e f).2]) := by
  refine Spec0.of_call (CallS.of_code tok func8 rfl rfl ?_)
  conv => whnf
  refine codeE_sound tok mixed _ ?_
  conv => whnf
  repeat (first | (refine ⟨rfl, ?_⟩; conv => whnf) | (refine lit_intro rfl ?_; conv => whnf) | (refine ⟨_, rfl, ?_⟩; conv => whnf) | (refine ⟨Nat.le_of_ble_eq_true rfl, ?_⟩; conv => whnf) | (refine ⟨fun h => h, ?_⟩; conv => whnf) | (refine ⟨_, fun _ => rfl, ?_⟩; conv => whnf) | (refine ⟨fun _ => rfl, ?_⟩; conv => whnf) | (refine ⟨fun h => congrArg Bool.not h, ?_⟩; conv => whnf) | (refine ⟨fun _ => of_decide_eq_true rfl, ?_⟩; conv => whnf) | (refine ⟨of_decide_eq_true rfl, ?_⟩; conv => whnf) | (refine ⟨⟨of_decide_eq_true rfl, of_decide_eq_true rfl⟩, ?_⟩; conv => whnf) | (refine ⟨⟨of_decide_eq_true rfl, of_decide_eq_true rfl, of_decide_eq_true rfl⟩, ?_⟩; conv => whnf) | (refine ⟨⟨of_decide_eq_true rfl, of_decide_eq_true rfl, of_decide_eq_true rfl, of_decide_eq_true rfl⟩, ?_⟩; conv => whnf) | (refine ⟨⟨by omega, by omega⟩, ?_⟩; conv => whnf) | (refine ⟨fun h => ⟨by omega, by omega⟩, ?_⟩; conv => whnf) | (refine ⟨fun _ => Nat.le_of_ble_eq_true rfl, ?_⟩; conv => whnf) | fail)
  repeat' (first | exact absurd ‹_› (by decide) | (refine ⟨rfl, ?_⟩; conv => whnf) | (refine lit_intro rfl ?_; conv => whnf) | (refine ⟨_, rfl, ?_⟩; conv => whnf) | (refine ⟨Nat.le_of_ble_eq_true rfl, ?_⟩; conv => whnf) | (refine ⟨fun h => h, ?_⟩; conv => whnf) | (refine ⟨_, fun _ => rfl, ?_⟩; conv => whnf) | (refine ⟨fun _ => rfl, ?_⟩; conv => whnf) | (refine ⟨fun h => congrArg Bool.not h, ?_⟩; conv => whnf) | (refine ⟨fun _ => of_decide_eq_true rfl, ?_⟩; conv => whnf) | (refine ⟨of_decide_eq_true rfl, ?_⟩; conv => whnf) | (refine ⟨⟨of_decide_eq_true rfl, of_decide_eq_true rfl⟩, ?_⟩; conv => whnf) | (refine ⟨⟨of_decide_eq_true rfl, of_decide_eq_true rfl, of_decide_eq_true rfl⟩, ?_⟩; conv => whnf) | (refine ⟨⟨of_decide_eq_true rfl, of_decide_eq_true rfl, of_decide_eq_true rfl, of_decide_eq_true rfl⟩, ?_⟩; conv => whnf) | (refine ⟨⟨by omega, by omega⟩, ?_⟩; conv => whnf) | (refine ⟨fun h => ⟨by omega, by omega⟩, ?_⟩; conv => whnf) | (refine ⟨fun _ => Nat.le_of_ble_eq_true rfl, ?_⟩; conv => whnf) | (refine CallS.of_spec0 rfl (rright_ ..) ?_; conv => whnf) | (refine ⟨_, rright_ .., ?_⟩; conv => whnf) | (refine ⟨_, fun _ => rright_ .., ?_⟩; conv => whnf) | ((with_reducible refine br_ndec (fun h => ?_) (fun h => ?_)) <;> conv => whnf) | ((with_reducible refine br_not (fun h => ?_) (fun h => ?_)) <;> conv => whnf) | ((with_reducible refine br_dec (fun h => ?_) (fun h => ?_)) <;> conv => whnf) | (refine ⟨fun h => ?_, fun h => ?_⟩ <;> conv => whnf) | fail)
  · have h0 : (rightW a b c && rightW d e f) = false := by
      rw [right_eq, right_eq]
      revert h
      cases rightR a b c <;> cases rightR d e f <;> simp
    simp only [both, h0, Bool.false_and, Bool.false_eq_true, if_false]
    exact VLe.refl _
  all_goals obtain ⟨⟨e1, e2, e3⟩, h1, h2⟩ := ref_ends (op := (· - ·)) a b c d e f (fun x y hx hy => i64_in (by omega) (by omega)) ‹_›
  all_goals rw [e1, e2, e3, ← right_eq] at h
  all_goals simp only [both, h1, h2, Bool.true_and]
  · rw [if_neg (by simp [h])]
    exact VLe.refl _
  · rw [if_pos h, e1, e2, e3]
    exact VLe.refl _
def encV (v : Int × Int × Int) : List AV := [.int .i64 v.1, .int .i64 v.2.1, .int .i64 v.2.2]
end Go.Mir.D
