/- The run of 'first' without symbols, in pieces: it answers true. No condition. -/
import Derived.Test.YtndjmkglbcbddaaDoorDT
import Derived.Test.YtndjmkglbcbddaaDoorDS
import Derived.Test.YtndjmkglbcbddaaDoorMirZ8
namespace Go.Mir.D
open Go Go.Mir Go.Proofs Go.Proofs.Tryd
theorem mixed0 : prog.follows .mixedOrders = true := by kernel_rfl
theorem count0 (s : ByteArray) (c : Int) : Spec0 prog 68 [.str s, .int .u8 c] (.int .i64 (Lib.countByte s.data.toList c.toNat.toUInt8)) := count_spec func68 rfl rfl (by kernel_rfl) (by kernel_rfl) s c
theorem index0 (s : ByteArray) (c : Int) : Spec0 prog 87 [.str s, .int .u8 c] (.int .i64 (firstIdx s c.toNat.toUInt8)) := index_spec func87 rfl rfl (by kernel_rfl) (by kernel_rfl) s c
noncomputable section
def eqt (t : Nat) (xs ys : List AV) : Option Bool := match t with
  | 23 => eqV T 4 23 (.agg xs) (.agg ys)
  | 38 => eqV T 4 38 (.agg xs) (.agg ys)
  | 62 => eqV T 4 62 (.agg xs) (.agg ys)
  | _ => none
def sp (f : FuncId) (xs : List AV) (hp : List Obj) : Option (AV × List Obj) := match f with
  | 29 => spJoin xs hp
  | 68 => match spCount xs with | some v => some (v, hp) | none => none
  | 87 => match spIndex xs with | some v => some (v, hp) | none => none
  | _ => none
end
theorem spok : CallSOk prog sp := by
  intro f xs hp r hp' h K hk
  unfold sp at h
  split at h
  · exact spJoin_spec func29 rfl rfl Tryd.strings_Join_none (fun bk o c xs sep w h1 h2 h3 h4 h5 => Tryd.strings_Join bk o c xs sep w h1 h2 h3 h4 h5) h K hk
  · exact spCount_spec count0 h K hk
  · exact spIndex_spec index0 h K hk
  · cases h
theorem eqok : EqtOk prog eqt := by
  intro t xs ys r h
  unfold eqt at h
  split at h
  · exact EqTo.of tok 4 (by decide) (by kernel_rfl) (by kernel_rfl) h
  · exact EqTo.of tok 4 (by decide) (by kernel_rfl) (by kernel_rfl) h
  · exact EqTo.of tok 4 (by decide) (by kernel_rfl) (by kernel_rfl) h
  · cases h
set_option maxRecDepth 1000000
def str (l : List UInt8) : AV := .str ⟨⟨l⟩⟩
def l0 : List Memo := []
theorem m0 : MemoOk prog l0 := .nil
theorem r0 : Spec0 prog 55 [AV.agg [.int .u64 0, .int .u64 500], .int .i64 6, .int .i64 0] (AV.tup [AV.agg [.int .u64 0, .int .u64 500000000], .bool true]) := Spec0.run_eq tok mixed0 eqok (withMemo_spec m0 spok) 1000 40 rfl (by kernel_rfl)
def l1 : List Memo := ⟨55, [AV.agg [.int .u64 0, .int .u64 500], .int .i64 6, .int .i64 0], AV.tup [AV.agg [.int .u64 0, .int .u64 500000000], .bool true]⟩ :: l0
theorem m1 : MemoOk prog l1 := .cons rfl r0 m0
theorem r1 : Spec0 prog 34 [str [53, 48, 48, 109]] (AV.tup [AV.agg [.int .u64 0, .int .u64 500000000], .int .i64 0]) := Spec0.run_eq tok mixed0 eqok (withMemo_spec m1 spok) 1000 40 rfl (by kernel_rfl)
def l2 : List Memo := ⟨34, [str [53, 48, 48, 109]], AV.tup [AV.agg [.int .u64 0, .int .u64 500000000], .int .i64 0]⟩ :: l1
theorem m2 : MemoOk prog l2 := .cons rfl r1 m1
theorem r2 : Spec0 prog 61 [AV.agg [.int .u64 0, .int .u64 500000000], .int .u64 1000000000] (AV.tup [AV.agg [.int .u64 0, .int .u64 0], .int .u64 500000000, .bool true]) := Spec0.run_eq tok mixed0 eqok (withMemo_spec m2 spok) 1000 40 rfl (by kernel_rfl)
def l3 : List Memo := ⟨61, [AV.agg [.int .u64 0, .int .u64 500000000], .int .u64 1000000000], AV.tup [AV.agg [.int .u64 0, .int .u64 0], .int .u64 500000000, .bool true]⟩ :: l2
theorem m3 : MemoOk prog l3 := .cons rfl r2 m2
theorem r3 : Spec0 prog 61 [AV.agg [.int .u64 0, .int .u64 500000000], .int .u64 1000000] (AV.tup [AV.agg [.int .u64 0, .int .u64 500], .int .u64 0, .bool true]) := Spec0.run_eq tok mixed0 eqok (withMemo_spec m3 spok) 1000 40 rfl (by kernel_rfl)
def l4 : List Memo := ⟨61, [AV.agg [.int .u64 0, .int .u64 500000000], .int .u64 1000000], AV.tup [AV.agg [.int .u64 0, .int .u64 500], .int .u64 0, .bool true]⟩ :: l3
theorem m4 : MemoOk prog l4 := .cons rfl r3 m3
theorem r4 : Spec0 prog 24 [str [99, 112, 117, 61, 53, 48, 48, 109]] (AV.tup [.int .i64 0, .int .i64 500, .int .i64 0]) := Spec0.run_eq tok mixed0 eqok (withMemo_spec m4 spok) 1000 40 rfl (by kernel_rfl)
def l5 : List Memo := ⟨24, [str [99, 112, 117, 61, 53, 48, 48, 109]], AV.tup [.int .i64 0, .int .i64 500, .int .i64 0]⟩ :: l4
theorem m5 : MemoOk prog l5 := .cons rfl r4 m4
theorem r5 : Spec0 prog 55 [AV.agg [.int .u64 0, .int .u64 1], .int .i64 9, .int .i64 30] (AV.tup [AV.agg [.int .u64 0, .int .u64 1073741824000000000], .bool true]) := Spec0.run_eq tok mixed0 eqok (withMemo_spec m5 spok) 1000 40 rfl (by kernel_rfl)
def l6 : List Memo := ⟨55, [AV.agg [.int .u64 0, .int .u64 1], .int .i64 9, .int .i64 30], AV.tup [AV.agg [.int .u64 0, .int .u64 1073741824000000000], .bool true]⟩ :: l5
theorem m6 : MemoOk prog l6 := .cons rfl r5 m5
theorem r6 : Spec0 prog 61 [AV.agg [.int .u64 0, .int .u64 1073741824000000000], .int .u64 1000000000] (AV.tup [AV.agg [.int .u64 0, .int .u64 1073741824], .int .u64 0, .bool true]) := Spec0.run_eq tok mixed0 eqok (withMemo_spec m6 spok) 1000 40 rfl (by kernel_rfl)
def l7 : List Memo := ⟨61, [AV.agg [.int .u64 0, .int .u64 1073741824000000000], .int .u64 1000000000], AV.tup [AV.agg [.int .u64 0, .int .u64 1073741824], .int .u64 0, .bool true]⟩ :: l6
theorem m7 : MemoOk prog l7 := .cons rfl r6 m6
theorem r7 : Spec0 prog 24 [str [109, 101, 109, 111, 114, 121, 61, 49, 71, 105]] (AV.tup [.int .i64 1, .int .i64 1073741824, .int .i64 0]) := Spec0.run_eq tok mixed0 eqok (withMemo_spec m7 spok) 1000 40 rfl (by kernel_rfl)
def l8 : List Memo := ⟨24, [str [109, 101, 109, 111, 114, 121, 61, 49, 71, 105]], AV.tup [.int .i64 1, .int .i64 1073741824, .int .i64 0]⟩ :: l7
theorem m8 : MemoOk prog l8 := .cons rfl r7 m7
theorem r8 : Spec0 prog 55 [AV.agg [.int .u64 0, .int .u64 1], .int .i64 9, .int .i64 0] (AV.tup [AV.agg [.int .u64 0, .int .u64 1000000000], .bool true]) := Spec0.run_eq tok mixed0 eqok (withMemo_spec m8 spok) 1000 40 rfl (by kernel_rfl)
def l9 : List Memo := ⟨55, [AV.agg [.int .u64 0, .int .u64 1], .int .i64 9, .int .i64 0], AV.tup [AV.agg [.int .u64 0, .int .u64 1000000000], .bool true]⟩ :: l8
theorem m9 : MemoOk prog l9 := .cons rfl r8 m8
theorem r9 : Spec0 prog 61 [AV.agg [.int .u64 0, .int .u64 1000000000], .int .u64 1000000000] (AV.tup [AV.agg [.int .u64 0, .int .u64 1], .int .u64 0, .bool true]) := Spec0.run_eq tok mixed0 eqok (withMemo_spec m9 spok) 1000 40 rfl (by kernel_rfl)
def l10 : List Memo := ⟨61, [AV.agg [.int .u64 0, .int .u64 1000000000], .int .u64 1000000000], AV.tup [AV.agg [.int .u64 0, .int .u64 1], .int .u64 0, .bool true]⟩ :: l9
theorem m10 : MemoOk prog l10 := .cons rfl r9 m9
theorem r10 : Spec0 prog 61 [AV.agg [.int .u64 0, .int .u64 1000000000], .int .u64 1000000] (AV.tup [AV.agg [.int .u64 0, .int .u64 1000], .int .u64 0, .bool true]) := Spec0.run_eq tok mixed0 eqok (withMemo_spec m10 spok) 1000 40 rfl (by kernel_rfl)
def l11 : List Memo := ⟨61, [AV.agg [.int .u64 0, .int .u64 1000000000], .int .u64 1000000], AV.tup [AV.agg [.int .u64 0, .int .u64 1000], .int .u64 0, .bool true]⟩ :: l10
theorem m11 : MemoOk prog l11 := .cons rfl r10 m10
theorem r11 : Spec0 prog 24 [str [99, 112, 117, 61, 49]] (AV.tup [.int .i64 0, .int .i64 1000, .int .i64 0]) := Spec0.run_eq tok mixed0 eqok (withMemo_spec m11 spok) 1000 40 rfl (by kernel_rfl)
def l12 : List Memo := ⟨24, [str [99, 112, 117, 61, 49]], AV.tup [.int .i64 0, .int .i64 1000, .int .i64 0]⟩ :: l11
theorem m12 : MemoOk prog l12 := .cons rfl r11 m11
theorem r12 : Spec0 prog 4 [] (.bool true) := Spec0.run_eq tok mixed0 eqok (withMemo_spec m12 spok) 1000 40 rfl (by kernel_rfl)
def l13 : List Memo := ⟨4, [], .bool true⟩ :: l12
theorem m13 : MemoOk prog l13 := .cons rfl r12 m12
end Go.Mir.D
