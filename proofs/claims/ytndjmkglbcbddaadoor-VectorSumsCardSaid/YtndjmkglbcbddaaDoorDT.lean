/- The table of types of this seat, and that it fits the program. No condition. -/
import Derived.Test.YtndjmkglbcbddaaDoorProg
import Derived.Test.YtndjmkglbcbddaaDoorMirU
import Derived.KernelRfl
set_option maxRecDepth 100000
set_option linter.unusedVariables false
namespace Go.Mir.D
open Go Go.Mir Go.Proofs.Tryd

def other : TI := ⟨.other, 0, 0, [], Unit, fun _ => [], ()⟩
def tl : List TI := [
  other,
  ⟨.func, 1, 8, [.nilf], Unit, fun _ => [], ()⟩,
  ⟨.int .i64, 1, 8, [.int .i64 0], Unit, fun _ => [], ()⟩,
  ⟨.int .i64, 1, 8, [.int .i64 0], Int, fun n => [.int .i64 n], 0⟩,
  ⟨.bool, 1, 1, [.bool false], Unit, fun _ => [], ()⟩,
  ⟨.int .u8, 1, 1, [.int .u8 0], Int, fun n => [.int .u8 n], 0⟩,
  ⟨.int .u8, 1, 1, [.int .u8 0], Unit, fun _ => [], ()⟩,
  ⟨.struct [(2, 0), (3, 1), (4, 2), (6, 3)], 4, 24, [.int .i64 0, .int .i64 0, .bool false, .int .u8 0], Unit, fun _ => [], ()⟩,
  ⟨.struct [(2, 0), (3, 1), (4, 2), (6, 3)], 4, 24, [.int .i64 0, .int .i64 0, .bool false, .int .u8 0], Unit, fun _ => [], ()⟩,
  ⟨.str, 1, 16, [.str ⟨#[]⟩], ByteArray, fun s => [.str s], ⟨#[]⟩⟩,
  ⟨.str, 1, 16, [.str ⟨#[]⟩], Unit, fun _ => [], ()⟩,
  ⟨.str, 1, 16, [.str ⟨#[]⟩], Unit, fun _ => [], ()⟩,
  ⟨.int .u64, 1, 8, [.int .u64 0], Unit, fun _ => [], ()⟩,
  ⟨.struct [(9, 0), (12, 1)], 2, 24, [.str ⟨#[]⟩, .int .u64 0], Unit, fun _ => [], ()⟩,
  ⟨.struct [(9, 0), (12, 1)], 2, 24, [.str ⟨#[]⟩, .int .u64 0], Unit, fun _ => [], ()⟩,
  ⟨.ptr 131, 1, 8, [.nilp], Unit, fun _ => [], ()⟩,
  ⟨.ptr 134, 1, 8, [.nilp], Unit, fun _ => [], ()⟩,
  ⟨.ptr 142, 1, 8, [.nilp], Unit, fun _ => [], ()⟩,
  ⟨.struct [(17, 0)], 1, 8, [.nilp], Unit, fun _ => [], ()⟩,
  ⟨.struct [(17, 0)], 1, 8, [.nilp], Unit, fun _ => [], ()⟩,
  ⟨.iface, 1, 16, [.nili], Unit, fun _ => [], ()⟩,
  ⟨.int .i32, 1, 4, [.int .i32 0], Unit, fun _ => [], ()⟩,
  ⟨.struct [(3, 0), (3, 1), (3, 2)], 3, 24, [.int .i64 0, .int .i64 0, .int .i64 0], Unit, fun _ => [], ()⟩,
  ⟨.struct [(3, 0), (3, 1), (3, 2)], 3, 24, [.int .i64 0, .int .i64 0, .int .i64 0], Int × Int × Int, fun v => [.int .i64 v.1, .int .i64 v.2.1, .int .i64 v.2.2], (0, 0, 0)⟩,
  ⟨.slice 23, 1, 24, [.nils], Unit, fun _ => [], ()⟩,
  ⟨.func, 1, 8, [.nilf], Unit, fun _ => [], ()⟩,
  other,
  ⟨.func, 1, 8, [.nilf], Unit, fun _ => [], ()⟩,
  ⟨.func, 1, 8, [.nilf], Unit, fun _ => [], ()⟩,
  ⟨.func, 1, 8, [.nilf], Unit, fun _ => [], ()⟩,
  ⟨.func, 1, 8, [.nilf], Unit, fun _ => [], ()⟩,
  ⟨.int .i64, 1, 8, [.int .i64 0], Unit, fun _ => [], ()⟩,
  other,
  ⟨.func, 1, 8, [.nilf], Unit, fun _ => [], ()⟩,
  ⟨.func, 1, 8, [.nilf], Unit, fun _ => [], ()⟩,
  ⟨.func, 1, 8, [.nilf], Unit, fun _ => [], ()⟩,
  ⟨.func, 1, 8, [.nilf], Unit, fun _ => [], ()⟩,
  ⟨.func, 1, 8, [.nilf], Unit, fun _ => [], ()⟩,
  ⟨.array 3 4, 3, 3, [.bool false, .bool false, .bool false], Unit, fun _ => [], ()⟩,
  ⟨.func, 1, 8, [.nilf], Unit, fun _ => [], ()⟩,
  ⟨.func, 1, 8, [.nilf], Unit, fun _ => [], ()⟩,
  ⟨.func, 1, 8, [.nilf], Unit, fun _ => [], ()⟩,
  ⟨.slice 9, 1, 24, [.nils], Unit, fun _ => [], ()⟩,
  ⟨.func, 1, 8, [.nilf], Unit, fun _ => [], ()⟩,
  other,
  ⟨.func, 1, 8, [.nilf], Unit, fun _ => [], ()⟩,
  other,
  ⟨.func, 1, 8, [.nilf], Unit, fun _ => [], ()⟩,
  other,
  ⟨.func, 1, 8, [.nilf], Unit, fun _ => [], ()⟩,
  ⟨.func, 1, 8, [.nilf], Unit, fun _ => [], ()⟩,
  ⟨.array 3 3, 3, 24, [.int .i64 0, .int .i64 0, .int .i64 0], Unit, fun _ => [], ()⟩,
  ⟨.func, 1, 8, [.nilf], Unit, fun _ => [], ()⟩,
  ⟨.array 3 9, 3, 48, [.str ⟨#[]⟩, .str ⟨#[]⟩, .str ⟨#[]⟩], Unit, fun _ => [], ()⟩,
  ⟨.func, 1, 8, [.nilf], Unit, fun _ => [], ()⟩,
  ⟨.func, 1, 8, [.nilf], Unit, fun _ => [], ()⟩,
  ⟨.func, 1, 8, [.nilf], Unit, fun _ => [], ()⟩,
  ⟨.func, 1, 8, [.nilf], Unit, fun _ => [], ()⟩,
  ⟨.func, 1, 8, [.nilf], Unit, fun _ => [], ()⟩,
  ⟨.int .u64, 1, 8, [.int .u64 0], Unit, fun _ => [], ()⟩,
  ⟨.func, 1, 8, [.nilf], Unit, fun _ => [], ()⟩,
  ⟨.struct [(59, 0), (59, 1)], 2, 16, [.int .u64 0, .int .u64 0], Unit, fun _ => [], ()⟩,
  ⟨.struct [(59, 0), (59, 1)], 2, 16, [.int .u64 0, .int .u64 0], Unit, fun _ => [], ()⟩,
  other,
  ⟨.func, 1, 8, [.nilf], Unit, fun _ => [], ()⟩,
  ⟨.func, 1, 8, [.nilf], Unit, fun _ => [], ()⟩,
  other,
  ⟨.func, 1, 8, [.nilf], Unit, fun _ => [], ()⟩,
  ⟨.func, 1, 8, [.nilf], Unit, fun _ => [], ()⟩,
  ⟨.func, 1, 8, [.nilf], Unit, fun _ => [], ()⟩,
  ⟨.ptr 73, 1, 8, [.nilp], Unit, fun _ => [], ()⟩,
  ⟨.slice 5, 1, 24, [.nils], Unit, fun _ => [], ()⟩,
  ⟨.struct [(70, 0), (71, 1)], 2, 32, [.nilp, .nils], Unit, fun _ => [], ()⟩,
  ⟨.struct [(70, 0), (71, 1)], 2, 32, [.nilp, .nils], Unit, fun _ => [], ()⟩,
  ⟨.func, 1, 8, [.nilf], Unit, fun _ => [], ()⟩,
  ⟨.iface, 1, 16, [.nili], Unit, fun _ => [], ()⟩,
  ⟨.iface, 1, 16, [.nili], Unit, fun _ => [], ()⟩,
  other,
  ⟨.func, 1, 8, [.nilf], Unit, fun _ => [], ()⟩,
  ⟨.func, 1, 8, [.nilf], Unit, fun _ => [], ()⟩,
  ⟨.func, 1, 8, [.nilf], Unit, fun _ => [], ()⟩,
  ⟨.func, 1, 8, [.nilf], Unit, fun _ => [], ()⟩,
  other,
  ⟨.func, 1, 8, [.nilf], Unit, fun _ => [], ()⟩,
  ⟨.func, 1, 8, [.nilf], Unit, fun _ => [], ()⟩,
  ⟨.struct [(9, 0), (3, 1), (3, 2)], 3, 32, [.str ⟨#[]⟩, .int .i64 0, .int .i64 0], Unit, fun _ => [], ()⟩,
  ⟨.struct [(9, 0), (3, 1), (3, 2)], 3, 32, [.str ⟨#[]⟩, .int .i64 0, .int .i64 0], Unit, fun _ => [], ()⟩,
  other,
  ⟨.func, 1, 8, [.nilf], Unit, fun _ => [], ()⟩,
  other,
  ⟨.func, 1, 8, [.nilf], Unit, fun _ => [], ()⟩,
  ⟨.func, 1, 8, [.nilf], Unit, fun _ => [], ()⟩,
  ⟨.func, 1, 8, [.nilf], Unit, fun _ => [], ()⟩,
  ⟨.func, 1, 8, [.nilf], Unit, fun _ => [], ()⟩,
  ⟨.func, 1, 8, [.nilf], Unit, fun _ => [], ()⟩,
  ⟨.func, 1, 8, [.nilf], Unit, fun _ => [], ()⟩,
  ⟨.func, 1, 8, [.nilf], Unit, fun _ => [], ()⟩,
  ⟨.func, 1, 8, [.nilf], Unit, fun _ => [], ()⟩,
  other,
  ⟨.func, 1, 8, [.nilf], Unit, fun _ => [], ()⟩,
  other,
  ⟨.func, 1, 8, [.nilf], Unit, fun _ => [], ()⟩,
  ⟨.int .u64, 1, 8, [.int .u64 0], Unit, fun _ => [], ()⟩,
  ⟨.ptr 5, 1, 8, [.nilp], Unit, fun _ => [], ()⟩,
  ⟨.func, 1, 8, [.nilf], Unit, fun _ => [], ()⟩,
  other,
  ⟨.func, 1, 8, [.nilf], Unit, fun _ => [], ()⟩,
  ⟨.func, 1, 8, [.nilf], Unit, fun _ => [], ()⟩,
  ⟨.func, 1, 8, [.nilf], Unit, fun _ => [], ()⟩,
  ⟨.slice 86, 1, 24, [.nils], Unit, fun _ => [], ()⟩,
  ⟨.func, 1, 8, [.nilf], Unit, fun _ => [], ()⟩,
  ⟨.func, 1, 8, [.nilf], Unit, fun _ => [], ()⟩,
  ⟨.func, 1, 8, [.nilf], Unit, fun _ => [], ()⟩,
  ⟨.func, 1, 8, [.nilf], Unit, fun _ => [], ()⟩,
  ⟨.func, 1, 8, [.nilf], Unit, fun _ => [], ()⟩,
  ⟨.func, 1, 8, [.nilf], Unit, fun _ => [], ()⟩,
  ⟨.func, 1, 8, [.nilf], Unit, fun _ => [], ()⟩,
  ⟨.func, 1, 8, [.nilf], Unit, fun _ => [], ()⟩,
  ⟨.array 40 5, 40, 40, [.int .u8 0, .int .u8 0, .int .u8 0, .int .u8 0, .int .u8 0, .int .u8 0, .int .u8 0, .int .u8 0, .int .u8 0, .int .u8 0, .int .u8 0, .int .u8 0, .int .u8 0, .int .u8 0, .int .u8 0, .int .u8 0, .int .u8 0, .int .u8 0, .int .u8 0, .int .u8 0, .int .u8 0, .int .u8 0, .int .u8 0, .int .u8 0, .int .u8 0, .int .u8 0, .int .u8 0, .int .u8 0, .int .u8 0, .int .u8 0, .int .u8 0, .int .u8 0, .int .u8 0, .int .u8 0, .int .u8 0, .int .u8 0, .int .u8 0, .int .u8 0, .int .u8 0, .int .u8 0], Unit, fun _ => [], ()⟩,
  other,
  ⟨.func, 1, 8, [.nilf], Unit, fun _ => [], ()⟩,
  ⟨.func, 1, 8, [.nilf], Unit, fun _ => [], ()⟩,
  ⟨.int .u32, 1, 4, [.int .u32 0], Unit, fun _ => [], ()⟩,
  other,
  ⟨.func, 1, 8, [.nilf], Unit, fun _ => [], ()⟩,
  ⟨.func, 1, 8, [.nilf], Unit, fun _ => [], ()⟩,
  ⟨.array 256 5, 256, 256, [.int .u8 0, .int .u8 0, .int .u8 0, .int .u8 0, .int .u8 0, .int .u8 0, .int .u8 0, .int .u8 0, .int .u8 0, .int .u8 0, .int .u8 0, .int .u8 0, .int .u8 0, .int .u8 0, .int .u8 0, .int .u8 0, .int .u8 0, .int .u8 0, .int .u8 0, .int .u8 0, .int .u8 0, .int .u8 0, .int .u8 0, .int .u8 0, .int .u8 0, .int .u8 0, .int .u8 0, .int .u8 0, .int .u8 0, .int .u8 0, .int .u8 0, .int .u8 0, .int .u8 0, .int .u8 0, .int .u8 0, .int .u8 0, .int .u8 0, .int .u8 0, .int .u8 0, .int .u8 0, .int .u8 0, .int .u8 0, .int .u8 0, .int .u8 0, .int .u8 0, .int .u8 0, .int .u8 0, .int .u8 0, .int .u8 0, .int .u8 0, .int .u8 0, .int .u8 0, .int .u8 0, .int .u8 0, .int .u8 0, .int .u8 0, .int .u8 0, .int .u8 0, .int .u8 0, .int .u8 0, .int .u8 0, .int .u8 0, .int .u8 0, .int .u8 0, .int .u8 0, .int .u8 0, .int .u8 0, .int .u8 0, .int .u8 0, .int .u8 0, .int .u8 0, .int .u8 0, .int .u8 0, .int .u8 0, .int .u8 0, .int .u8 0, .int .u8 0, .int .u8 0, .int .u8 0, .int .u8 0, .int .u8 0, .int .u8 0, .int .u8 0, .int .u8 0, .int .u8 0, .int .u8 0, .int .u8 0, .int .u8 0, .int .u8 0, .int .u8 0, .int .u8 0, .int .u8 0, .int .u8 0, .int .u8 0, .int .u8 0, .int .u8 0, .int .u8 0, .int .u8 0, .int .u8 0, .int .u8 0, .int .u8 0, .int .u8 0, .int .u8 0, .int .u8 0, .int .u8 0, .int .u8 0, .int .u8 0, .int .u8 0, .int .u8 0, .int .u8 0, .int .u8 0, .int .u8 0, .int .u8 0, .int .u8 0, .int .u8 0, .int .u8 0, .int .u8 0, .int .u8 0, .int .u8 0, .int .u8 0, .int .u8 0, .int .u8 0, .int .u8 0, .int .u8 0, .int .u8 0, .int .u8 0, .int .u8 0, .int .u8 0, .int .u8 0, .int .u8 0, .int .u8 0, .int .u8 0, .int .u8 0, .int .u8 0, .int .u8 0, .int .u8 0, .int .u8 0, .int .u8 0, .int .u8 0, .int .u8 0, .int .u8 0, .int .u8 0, .int .u8 0, .int .u8 0, .int .u8 0, .int .u8 0, .int .u8 0, .int .u8 0, .int .u8 0, .int .u8 0, .int .u8 0, .int .u8 0, .int .u8 0, .int .u8 0, .int .u8 0, .int .u8 0, .int .u8 0, .int .u8 0, .int .u8 0, .int .u8 0, .int .u8 0, .int .u8 0, .int .u8 0, .int .u8 0, .int .u8 0, .int .u8 0, .int .u8 0, .int .u8 0, .int .u8 0, .int .u8 0, .int .u8 0, .int .u8 0, .int .u8 0, .int .u8 0, .int .u8 0, .int .u8 0, .int .u8 0, .int .u8 0, .int .u8 0, .int .u8 0, .int .u8 0, .int .u8 0, .int .u8 0, .int .u8 0, .int .u8 0, .int .u8 0, .int .u8 0, .int .u8 0, .int .u8 0, .int .u8 0, .int .u8 0, .int .u8 0, .int .u8 0, .int .u8 0, .int .u8 0, .int .u8 0, .int .u8 0, .int .u8 0, .int .u8 0, .int .u8 0, .int .u8 0, .int .u8 0, .int .u8 0, .int .u8 0, .int .u8 0, .int .u8 0, .int .u8 0, .int .u8 0, .int .u8 0, .int .u8 0, .int .u8 0, .int .u8 0, .int .u8 0, .int .u8 0, .int .u8 0, .int .u8 0, .int .u8 0, .int .u8 0, .int .u8 0, .int .u8 0, .int .u8 0, .int .u8 0, .int .u8 0, .int .u8 0, .int .u8 0, .int .u8 0, .int .u8 0, .int .u8 0, .int .u8 0, .int .u8 0, .int .u8 0, .int .u8 0, .int .u8 0, .int .u8 0, .int .u8 0, .int .u8 0, .int .u8 0, .int .u8 0, .int .u8 0, .int .u8 0, .int .u8 0, .int .u8 0, .int .u8 0, .int .u8 0, .int .u8 0, .int .u8 0, .int .u8 0, .int .u8 0, .int .u8 0, .int .u8 0, .int .u8 0, .int .u8 0, .int .u8 0, .int .u8 0, .int .u8 0, .int .u8 0], Unit, fun _ => [], ()⟩,
  ⟨.struct [(5, 0), (5, 1)], 2, 2, [.int .u8 0, .int .u8 0], Unit, fun _ => [], ()⟩,
  ⟨.struct [(5, 0), (5, 1)], 2, 2, [.int .u8 0, .int .u8 0], Unit, fun _ => [], ()⟩,
  ⟨.array 16 128, 32, 32, [.int .u8 0, .int .u8 0, .int .u8 0, .int .u8 0, .int .u8 0, .int .u8 0, .int .u8 0, .int .u8 0, .int .u8 0, .int .u8 0, .int .u8 0, .int .u8 0, .int .u8 0, .int .u8 0, .int .u8 0, .int .u8 0, .int .u8 0, .int .u8 0, .int .u8 0, .int .u8 0, .int .u8 0, .int .u8 0, .int .u8 0, .int .u8 0, .int .u8 0, .int .u8 0, .int .u8 0, .int .u8 0, .int .u8 0, .int .u8 0, .int .u8 0, .int .u8 0], Unit, fun _ => [], ()⟩,
  ⟨.struct [(17, 0), (17, 1), (17, 2), (9, 3)], 4, 40, [.nilp, .nilp, .nilp, .str ⟨#[]⟩], Unit, fun _ => [], ()⟩,
  ⟨.struct [(17, 0), (17, 1), (17, 2), (9, 3)], 4, 40, [.nilp, .nilp, .nilp, .str ⟨#[]⟩], Unit, fun _ => [], ()⟩,
  ⟨.array 0 16, 0, 0, [], Unit, fun _ => [], ()⟩,
  ⟨.struct [(132, 0)], 0, 0, [], Unit, fun _ => [], ()⟩,
  ⟨.struct [(132, 0)], 0, 0, [], Unit, fun _ => [], ()⟩,
  ⟨.func, 1, 8, [.nilf], Unit, fun _ => [], ()⟩,
  ⟨.int .u8, 1, 1, [.int .u8 0], Unit, fun _ => [], ()⟩,
  ⟨.int .u8, 1, 1, [.int .u8 0], Unit, fun _ => [], ()⟩,
  ⟨.func, 1, 8, [.nilf], Unit, fun _ => [], ()⟩,
  ⟨.int .i32, 1, 4, [.int .i32 0], Unit, fun _ => [], ()⟩,
  ⟨.int .i32, 1, 4, [.int .i32 0], Unit, fun _ => [], ()⟩,
  ⟨.struct [(12, 0), (12, 1), (122, 2), (136, 3), (5, 4), (5, 5), (137, 6), (138, 7), (103, 8), (139, 9), (140, 10)], 11, 48, [.int .u64 0, .int .u64 0, .int .u32 0, .int .u8 0, .int .u8 0, .int .u8 0, .int .u8 0, .nilf, .nilp, .int .i32 0, .int .i32 0], Unit, fun _ => [], ()⟩,
  ⟨.struct [(12, 0), (12, 1), (122, 2), (136, 3), (5, 4), (5, 5), (137, 6), (138, 7), (103, 8), (139, 9), (140, 10)], 11, 48, [.int .u64 0, .int .u64 0, .int .u32 0, .int .u8 0, .int .u8 0, .int .u8 0, .int .u8 0, .nilf, .nilp, .int .i32 0, .int .i32 0], Unit, fun _ => [], ()⟩]
def T (t : Nat) : TI := tl.getD t other
theorem tok1 : TyOk prog (T 1) 1 := tyOk_one (i := t1) (z := .nilFunc) (by kernel_rfl) underlying1 trivial rfl rfl rfl rfl rfl rfl rfl
theorem tok2 : TyOk prog (T 2) 2 := tyOk_one (i := t2) (z := .int .i64 0) (by kernel_rfl) underlying2 rfl rfl rfl rfl rfl rfl rfl rfl
theorem tok3 : TyOk prog (T 3) 3 := tyOk_one (i := t3) (z := .int .i64 0) (by kernel_rfl) underlying3 rfl rfl rfl rfl rfl rfl rfl rfl
theorem tok4 : TyOk prog (T 4) 4 := tyOk_one (i := t4) (z := .bool false) (by kernel_rfl) underlying4 trivial rfl rfl rfl rfl rfl rfl rfl
theorem tok5 : TyOk prog (T 5) 5 := tyOk_one (i := t5) (z := .int .u8 0) (by kernel_rfl) underlying5 rfl rfl rfl rfl rfl rfl rfl rfl
theorem tok6 : TyOk prog (T 6) 6 := tyOk_one (i := t6) (z := .int .u8 0) (by kernel_rfl) underlying6 rfl rfl rfl rfl rfl rfl rfl rfl
theorem tok7 : TyOk prog (T 7) 7 := tyOk_agg (i := t7) (vs := [.int .i64 0, .int .i64 0, .bool false, .int .u8 0]) (by kernel_rfl) underlying7 rfl rfl rfl rfl rfl rfl rfl
theorem tok8 : TyOk prog (T 8) 8 := tyOk_agg (i := t8) (vs := [.int .i64 0, .int .i64 0, .bool false, .int .u8 0]) (by kernel_rfl) underlying8 rfl rfl rfl rfl rfl rfl rfl
theorem tok9 : TyOk prog (T 9) 9 := tyOk_one (i := t9) (z := .string ⟨#[]⟩) (by kernel_rfl) underlying9 trivial rfl rfl rfl rfl rfl rfl rfl
theorem tok10 : TyOk prog (T 10) 10 := tyOk_one (i := t10) (z := .string ⟨#[]⟩) (by kernel_rfl) underlying10 trivial rfl rfl rfl rfl rfl rfl rfl
theorem tok11 : TyOk prog (T 11) 11 := tyOk_one (i := t11) (z := .string ⟨#[]⟩) (by kernel_rfl) underlying11 trivial rfl rfl rfl rfl rfl rfl rfl
theorem tok12 : TyOk prog (T 12) 12 := tyOk_one (i := t12) (z := .int .u64 0) (by kernel_rfl) underlying12 rfl rfl rfl rfl rfl rfl rfl rfl
theorem tok13 : TyOk prog (T 13) 13 := tyOk_agg (i := t13) (vs := [.string ⟨#[]⟩, .int .u64 0]) (by kernel_rfl) underlying13 rfl rfl rfl rfl rfl rfl rfl
theorem tok14 : TyOk prog (T 14) 14 := tyOk_agg (i := t14) (vs := [.string ⟨#[]⟩, .int .u64 0]) (by kernel_rfl) underlying14 rfl rfl rfl rfl rfl rfl rfl
theorem tok15 : TyOk prog (T 15) 15 := tyOk_one (i := t15) (z := .pointer none) (by kernel_rfl) underlying15 rfl rfl rfl rfl rfl rfl rfl rfl
theorem tok16 : TyOk prog (T 16) 16 := tyOk_one (i := t16) (z := .pointer none) (by kernel_rfl) underlying16 rfl rfl rfl rfl rfl rfl rfl rfl
theorem tok17 : TyOk prog (T 17) 17 := tyOk_one (i := t17) (z := .pointer none) (by kernel_rfl) underlying17 rfl rfl rfl rfl rfl rfl rfl rfl
theorem tok18 : TyOk prog (T 18) 18 := tyOk_agg (i := t18) (vs := [.pointer none]) (by kernel_rfl) underlying18 rfl rfl rfl rfl rfl rfl rfl
theorem tok19 : TyOk prog (T 19) 19 := tyOk_agg (i := t19) (vs := [.pointer none]) (by kernel_rfl) underlying19 rfl rfl rfl rfl rfl rfl rfl
theorem tok20 : TyOk prog (T 20) 20 := tyOk_one (i := t20) (z := .nilIface) (by kernel_rfl) underlying20 trivial rfl rfl rfl rfl rfl rfl rfl
theorem tok21 : TyOk prog (T 21) 21 := tyOk_one (i := t21) (z := .int .i32 0) (by kernel_rfl) underlying21 rfl rfl rfl rfl rfl rfl rfl rfl
theorem tok22 : TyOk prog (T 22) 22 := tyOk_agg (i := t22) (vs := [.int .i64 0, .int .i64 0, .int .i64 0]) (by kernel_rfl) underlying22 rfl rfl rfl rfl rfl rfl rfl
theorem tok23 : TyOk prog (T 23) 23 := tyOk_agg (i := t23) (vs := [.int .i64 0, .int .i64 0, .int .i64 0]) (by kernel_rfl) underlying23 rfl rfl rfl rfl rfl rfl rfl
theorem tok24 : TyOk prog (T 24) 24 := tyOk_one (i := t24) (z := .slice none 0 0) (by kernel_rfl) underlying24 rfl rfl rfl rfl rfl rfl rfl rfl
theorem tok25 : TyOk prog (T 25) 25 := tyOk_one (i := t25) (z := .nilFunc) (by kernel_rfl) underlying25 trivial rfl rfl rfl rfl rfl rfl rfl
theorem tok27 : TyOk prog (T 27) 27 := tyOk_one (i := t27) (z := .nilFunc) (by kernel_rfl) underlying27 trivial rfl rfl rfl rfl rfl rfl rfl
theorem tok28 : TyOk prog (T 28) 28 := tyOk_one (i := t28) (z := .nilFunc) (by kernel_rfl) underlying28 trivial rfl rfl rfl rfl rfl rfl rfl
theorem tok29 : TyOk prog (T 29) 29 := tyOk_one (i := t29) (z := .nilFunc) (by kernel_rfl) underlying29 trivial rfl rfl rfl rfl rfl rfl rfl
theorem tok30 : TyOk prog (T 30) 30 := tyOk_one (i := t30) (z := .nilFunc) (by kernel_rfl) underlying30 trivial rfl rfl rfl rfl rfl rfl rfl
theorem tok31 : TyOk prog (T 31) 31 := tyOk_one (i := t31) (z := .int .i64 0) (by kernel_rfl) underlying31 rfl rfl rfl rfl rfl rfl rfl rfl
theorem tok33 : TyOk prog (T 33) 33 := tyOk_one (i := t33) (z := .nilFunc) (by kernel_rfl) underlying33 trivial rfl rfl rfl rfl rfl rfl rfl
theorem tok34 : TyOk prog (T 34) 34 := tyOk_one (i := t34) (z := .nilFunc) (by kernel_rfl) underlying34 trivial rfl rfl rfl rfl rfl rfl rfl
theorem tok35 : TyOk prog (T 35) 35 := tyOk_one (i := t35) (z := .nilFunc) (by kernel_rfl) underlying35 trivial rfl rfl rfl rfl rfl rfl rfl
theorem tok36 : TyOk prog (T 36) 36 := tyOk_one (i := t36) (z := .nilFunc) (by kernel_rfl) underlying36 trivial rfl rfl rfl rfl rfl rfl rfl
theorem tok37 : TyOk prog (T 37) 37 := tyOk_one (i := t37) (z := .nilFunc) (by kernel_rfl) underlying37 trivial rfl rfl rfl rfl rfl rfl rfl
theorem tok38 : TyOk prog (T 38) 38 := tyOk_agg (i := t38) (vs := [.bool false, .bool false, .bool false]) (by kernel_rfl) underlying38 ⟨rfl, rfl⟩ rfl rfl rfl rfl rfl rfl
theorem tok39 : TyOk prog (T 39) 39 := tyOk_one (i := t39) (z := .nilFunc) (by kernel_rfl) underlying39 trivial rfl rfl rfl rfl rfl rfl rfl
theorem tok40 : TyOk prog (T 40) 40 := tyOk_one (i := t40) (z := .nilFunc) (by kernel_rfl) underlying40 trivial rfl rfl rfl rfl rfl rfl rfl
theorem tok41 : TyOk prog (T 41) 41 := tyOk_one (i := t41) (z := .nilFunc) (by kernel_rfl) underlying41 trivial rfl rfl rfl rfl rfl rfl rfl
theorem tok42 : TyOk prog (T 42) 42 := tyOk_one (i := t42) (z := .slice none 0 0) (by kernel_rfl) underlying42 rfl rfl rfl rfl rfl rfl rfl rfl
theorem tok43 : TyOk prog (T 43) 43 := tyOk_one (i := t43) (z := .nilFunc) (by kernel_rfl) underlying43 trivial rfl rfl rfl rfl rfl rfl rfl
theorem tok45 : TyOk prog (T 45) 45 := tyOk_one (i := t45) (z := .nilFunc) (by kernel_rfl) underlying45 trivial rfl rfl rfl rfl rfl rfl rfl
theorem tok47 : TyOk prog (T 47) 47 := tyOk_one (i := t47) (z := .nilFunc) (by kernel_rfl) underlying47 trivial rfl rfl rfl rfl rfl rfl rfl
theorem tok49 : TyOk prog (T 49) 49 := tyOk_one (i := t49) (z := .nilFunc) (by kernel_rfl) underlying49 trivial rfl rfl rfl rfl rfl rfl rfl
theorem tok50 : TyOk prog (T 50) 50 := tyOk_one (i := t50) (z := .nilFunc) (by kernel_rfl) underlying50 trivial rfl rfl rfl rfl rfl rfl rfl
theorem tok51 : TyOk prog (T 51) 51 := tyOk_agg (i := t51) (vs := [.int .i64 0, .int .i64 0, .int .i64 0]) (by kernel_rfl) underlying51 ⟨rfl, rfl⟩ rfl rfl rfl rfl rfl rfl
theorem tok52 : TyOk prog (T 52) 52 := tyOk_one (i := t52) (z := .nilFunc) (by kernel_rfl) underlying52 trivial rfl rfl rfl rfl rfl rfl rfl
theorem tok53 : TyOk prog (T 53) 53 := tyOk_agg (i := t53) (vs := [.string ⟨#[]⟩, .string ⟨#[]⟩, .string ⟨#[]⟩]) (by kernel_rfl) underlying53 ⟨rfl, rfl⟩ rfl rfl rfl rfl rfl rfl
theorem tok54 : TyOk prog (T 54) 54 := tyOk_one (i := t54) (z := .nilFunc) (by kernel_rfl) underlying54 trivial rfl rfl rfl rfl rfl rfl rfl
theorem tok55 : TyOk prog (T 55) 55 := tyOk_one (i := t55) (z := .nilFunc) (by kernel_rfl) underlying55 trivial rfl rfl rfl rfl rfl rfl rfl
theorem tok56 : TyOk prog (T 56) 56 := tyOk_one (i := t56) (z := .nilFunc) (by kernel_rfl) underlying56 trivial rfl rfl rfl rfl rfl rfl rfl
theorem tok57 : TyOk prog (T 57) 57 := tyOk_one (i := t57) (z := .nilFunc) (by kernel_rfl) underlying57 trivial rfl rfl rfl rfl rfl rfl rfl
theorem tok58 : TyOk prog (T 58) 58 := tyOk_one (i := t58) (z := .nilFunc) (by kernel_rfl) underlying58 trivial rfl rfl rfl rfl rfl rfl rfl
theorem tok59 : TyOk prog (T 59) 59 := tyOk_one (i := t59) (z := .int .u64 0) (by kernel_rfl) underlying59 rfl rfl rfl rfl rfl rfl rfl rfl
theorem tok60 : TyOk prog (T 60) 60 := tyOk_one (i := t60) (z := .nilFunc) (by kernel_rfl) underlying60 trivial rfl rfl rfl rfl rfl rfl rfl
theorem tok61 : TyOk prog (T 61) 61 := tyOk_agg (i := t61) (vs := [.int .u64 0, .int .u64 0]) (by kernel_rfl) underlying61 rfl rfl rfl rfl rfl rfl rfl
theorem tok62 : TyOk prog (T 62) 62 := tyOk_agg (i := t62) (vs := [.int .u64 0, .int .u64 0]) (by kernel_rfl) underlying62 rfl rfl rfl rfl rfl rfl rfl
theorem tok64 : TyOk prog (T 64) 64 := tyOk_one (i := t64) (z := .nilFunc) (by kernel_rfl) underlying64 trivial rfl rfl rfl rfl rfl rfl rfl
theorem tok65 : TyOk prog (T 65) 65 := tyOk_one (i := t65) (z := .nilFunc) (by kernel_rfl) underlying65 trivial rfl rfl rfl rfl rfl rfl rfl
theorem tok67 : TyOk prog (T 67) 67 := tyOk_one (i := t67) (z := .nilFunc) (by kernel_rfl) underlying67 trivial rfl rfl rfl rfl rfl rfl rfl
theorem tok68 : TyOk prog (T 68) 68 := tyOk_one (i := t68) (z := .nilFunc) (by kernel_rfl) underlying68 trivial rfl rfl rfl rfl rfl rfl rfl
theorem tok69 : TyOk prog (T 69) 69 := tyOk_one (i := t69) (z := .nilFunc) (by kernel_rfl) underlying69 trivial rfl rfl rfl rfl rfl rfl rfl
theorem tok70 : TyOk prog (T 70) 70 := tyOk_one (i := t70) (z := .pointer none) (by kernel_rfl) underlying70 rfl rfl rfl rfl rfl rfl rfl rfl
theorem tok71 : TyOk prog (T 71) 71 := tyOk_one (i := t71) (z := .slice none 0 0) (by kernel_rfl) underlying71 rfl rfl rfl rfl rfl rfl rfl rfl
theorem tok72 : TyOk prog (T 72) 72 := tyOk_agg (i := t72) (vs := [.pointer none, .slice none 0 0]) (by kernel_rfl) underlying72 rfl rfl rfl rfl rfl rfl rfl
theorem tok73 : TyOk prog (T 73) 73 := tyOk_agg (i := t73) (vs := [.pointer none, .slice none 0 0]) (by kernel_rfl) underlying73 rfl rfl rfl rfl rfl rfl rfl
theorem tok74 : TyOk prog (T 74) 74 := tyOk_one (i := t74) (z := .nilFunc) (by kernel_rfl) underlying74 trivial rfl rfl rfl rfl rfl rfl rfl
theorem tok75 : TyOk prog (T 75) 75 := tyOk_one (i := t75) (z := .nilIface) (by kernel_rfl) underlying75 trivial rfl rfl rfl rfl rfl rfl rfl
theorem tok76 : TyOk prog (T 76) 76 := tyOk_one (i := t76) (z := .nilIface) (by kernel_rfl) underlying76 trivial rfl rfl rfl rfl rfl rfl rfl
theorem tok78 : TyOk prog (T 78) 78 := tyOk_one (i := t78) (z := .nilFunc) (by kernel_rfl) underlying78 trivial rfl rfl rfl rfl rfl rfl rfl
theorem tok79 : TyOk prog (T 79) 79 := tyOk_one (i := t79) (z := .nilFunc) (by kernel_rfl) underlying79 trivial rfl rfl rfl rfl rfl rfl rfl
theorem tok80 : TyOk prog (T 80) 80 := tyOk_one (i := t80) (z := .nilFunc) (by kernel_rfl) underlying80 trivial rfl rfl rfl rfl rfl rfl rfl
theorem tok81 : TyOk prog (T 81) 81 := tyOk_one (i := t81) (z := .nilFunc) (by kernel_rfl) underlying81 trivial rfl rfl rfl rfl rfl rfl rfl
theorem tok83 : TyOk prog (T 83) 83 := tyOk_one (i := t83) (z := .nilFunc) (by kernel_rfl) underlying83 trivial rfl rfl rfl rfl rfl rfl rfl
theorem tok84 : TyOk prog (T 84) 84 := tyOk_one (i := t84) (z := .nilFunc) (by kernel_rfl) underlying84 trivial rfl rfl rfl rfl rfl rfl rfl
theorem tok85 : TyOk prog (T 85) 85 := tyOk_agg (i := t85) (vs := [.string ⟨#[]⟩, .int .i64 0, .int .i64 0]) (by kernel_rfl) underlying85 rfl rfl rfl rfl rfl rfl rfl
theorem tok86 : TyOk prog (T 86) 86 := tyOk_agg (i := t86) (vs := [.string ⟨#[]⟩, .int .i64 0, .int .i64 0]) (by kernel_rfl) underlying86 rfl rfl rfl rfl rfl rfl rfl
theorem tok88 : TyOk prog (T 88) 88 := tyOk_one (i := t88) (z := .nilFunc) (by kernel_rfl) underlying88 trivial rfl rfl rfl rfl rfl rfl rfl
theorem tok90 : TyOk prog (T 90) 90 := tyOk_one (i := t90) (z := .nilFunc) (by kernel_rfl) underlying90 trivial rfl rfl rfl rfl rfl rfl rfl
theorem tok91 : TyOk prog (T 91) 91 := tyOk_one (i := t91) (z := .nilFunc) (by kernel_rfl) underlying91 trivial rfl rfl rfl rfl rfl rfl rfl
theorem tok92 : TyOk prog (T 92) 92 := tyOk_one (i := t92) (z := .nilFunc) (by kernel_rfl) underlying92 trivial rfl rfl rfl rfl rfl rfl rfl
theorem tok93 : TyOk prog (T 93) 93 := tyOk_one (i := t93) (z := .nilFunc) (by kernel_rfl) underlying93 trivial rfl rfl rfl rfl rfl rfl rfl
theorem tok94 : TyOk prog (T 94) 94 := tyOk_one (i := t94) (z := .nilFunc) (by kernel_rfl) underlying94 trivial rfl rfl rfl rfl rfl rfl rfl
theorem tok95 : TyOk prog (T 95) 95 := tyOk_one (i := t95) (z := .nilFunc) (by kernel_rfl) underlying95 trivial rfl rfl rfl rfl rfl rfl rfl
theorem tok96 : TyOk prog (T 96) 96 := tyOk_one (i := t96) (z := .nilFunc) (by kernel_rfl) underlying96 trivial rfl rfl rfl rfl rfl rfl rfl
theorem tok97 : TyOk prog (T 97) 97 := tyOk_one (i := t97) (z := .nilFunc) (by kernel_rfl) underlying97 trivial rfl rfl rfl rfl rfl rfl rfl
theorem tok99 : TyOk prog (T 99) 99 := tyOk_one (i := t99) (z := .nilFunc) (by kernel_rfl) underlying99 trivial rfl rfl rfl rfl rfl rfl rfl
theorem tok101 : TyOk prog (T 101) 101 := tyOk_one (i := t101) (z := .nilFunc) (by kernel_rfl) underlying101 trivial rfl rfl rfl rfl rfl rfl rfl
theorem tok102 : TyOk prog (T 102) 102 := tyOk_one (i := t102) (z := .int .u64 0) (by kernel_rfl) underlying102 rfl rfl rfl rfl rfl rfl rfl rfl
theorem tok103 : TyOk prog (T 103) 103 := tyOk_one (i := t103) (z := .pointer none) (by kernel_rfl) underlying103 rfl rfl rfl rfl rfl rfl rfl rfl
theorem tok104 : TyOk prog (T 104) 104 := tyOk_one (i := t104) (z := .nilFunc) (by kernel_rfl) underlying104 trivial rfl rfl rfl rfl rfl rfl rfl
theorem tok106 : TyOk prog (T 106) 106 := tyOk_one (i := t106) (z := .nilFunc) (by kernel_rfl) underlying106 trivial rfl rfl rfl rfl rfl rfl rfl
theorem tok107 : TyOk prog (T 107) 107 := tyOk_one (i := t107) (z := .nilFunc) (by kernel_rfl) underlying107 trivial rfl rfl rfl rfl rfl rfl rfl
theorem tok108 : TyOk prog (T 108) 108 := tyOk_one (i := t108) (z := .nilFunc) (by kernel_rfl) underlying108 trivial rfl rfl rfl rfl rfl rfl rfl
theorem tok109 : TyOk prog (T 109) 109 := tyOk_one (i := t109) (z := .slice none 0 0) (by kernel_rfl) underlying109 rfl rfl rfl rfl rfl rfl rfl rfl
theorem tok110 : TyOk prog (T 110) 110 := tyOk_one (i := t110) (z := .nilFunc) (by kernel_rfl) underlying110 trivial rfl rfl rfl rfl rfl rfl rfl
theorem tok111 : TyOk prog (T 111) 111 := tyOk_one (i := t111) (z := .nilFunc) (by kernel_rfl) underlying111 trivial rfl rfl rfl rfl rfl rfl rfl
theorem tok112 : TyOk prog (T 112) 112 := tyOk_one (i := t112) (z := .nilFunc) (by kernel_rfl) underlying112 trivial rfl rfl rfl rfl rfl rfl rfl
theorem tok113 : TyOk prog (T 113) 113 := tyOk_one (i := t113) (z := .nilFunc) (by kernel_rfl) underlying113 trivial rfl rfl rfl rfl rfl rfl rfl
theorem tok114 : TyOk prog (T 114) 114 := tyOk_one (i := t114) (z := .nilFunc) (by kernel_rfl) underlying114 trivial rfl rfl rfl rfl rfl rfl rfl
theorem tok115 : TyOk prog (T 115) 115 := tyOk_one (i := t115) (z := .nilFunc) (by kernel_rfl) underlying115 trivial rfl rfl rfl rfl rfl rfl rfl
theorem tok116 : TyOk prog (T 116) 116 := tyOk_one (i := t116) (z := .nilFunc) (by kernel_rfl) underlying116 trivial rfl rfl rfl rfl rfl rfl rfl
theorem tok117 : TyOk prog (T 117) 117 := tyOk_one (i := t117) (z := .nilFunc) (by kernel_rfl) underlying117 trivial rfl rfl rfl rfl rfl rfl rfl
theorem tok118 : TyOk prog (T 118) 118 := tyOk_agg (i := t118) (vs := [.int .u8 0, .int .u8 0, .int .u8 0, .int .u8 0, .int .u8 0, .int .u8 0, .int .u8 0, .int .u8 0, .int .u8 0, .int .u8 0, .int .u8 0, .int .u8 0, .int .u8 0, .int .u8 0, .int .u8 0, .int .u8 0, .int .u8 0, .int .u8 0, .int .u8 0, .int .u8 0, .int .u8 0, .int .u8 0, .int .u8 0, .int .u8 0, .int .u8 0, .int .u8 0, .int .u8 0, .int .u8 0, .int .u8 0, .int .u8 0, .int .u8 0, .int .u8 0, .int .u8 0, .int .u8 0, .int .u8 0, .int .u8 0, .int .u8 0, .int .u8 0, .int .u8 0, .int .u8 0]) (by kernel_rfl) underlying118 ⟨rfl, rfl⟩ rfl rfl rfl rfl rfl rfl
theorem tok120 : TyOk prog (T 120) 120 := tyOk_one (i := t120) (z := .nilFunc) (by kernel_rfl) underlying120 trivial rfl rfl rfl rfl rfl rfl rfl
theorem tok121 : TyOk prog (T 121) 121 := tyOk_one (i := t121) (z := .nilFunc) (by kernel_rfl) underlying121 trivial rfl rfl rfl rfl rfl rfl rfl
theorem tok122 : TyOk prog (T 122) 122 := tyOk_one (i := t122) (z := .int .u32 0) (by kernel_rfl) underlying122 rfl rfl rfl rfl rfl rfl rfl rfl
theorem tok124 : TyOk prog (T 124) 124 := tyOk_one (i := t124) (z := .nilFunc) (by kernel_rfl) underlying124 trivial rfl rfl rfl rfl rfl rfl rfl
theorem tok125 : TyOk prog (T 125) 125 := tyOk_one (i := t125) (z := .nilFunc) (by kernel_rfl) underlying125 trivial rfl rfl rfl rfl rfl rfl rfl
theorem tok126 : TyOk prog (T 126) 126 := tyOk_agg (i := t126) (vs := [.int .u8 0, .int .u8 0, .int .u8 0, .int .u8 0, .int .u8 0, .int .u8 0, .int .u8 0, .int .u8 0, .int .u8 0, .int .u8 0, .int .u8 0, .int .u8 0, .int .u8 0, .int .u8 0, .int .u8 0, .int .u8 0, .int .u8 0, .int .u8 0, .int .u8 0, .int .u8 0, .int .u8 0, .int .u8 0, .int .u8 0, .int .u8 0, .int .u8 0, .int .u8 0, .int .u8 0, .int .u8 0, .int .u8 0, .int .u8 0, .int .u8 0, .int .u8 0, .int .u8 0, .int .u8 0, .int .u8 0, .int .u8 0, .int .u8 0, .int .u8 0, .int .u8 0, .int .u8 0, .int .u8 0, .int .u8 0, .int .u8 0, .int .u8 0, .int .u8 0, .int .u8 0, .int .u8 0, .int .u8 0, .int .u8 0, .int .u8 0, .int .u8 0, .int .u8 0, .int .u8 0, .int .u8 0, .int .u8 0, .int .u8 0, .int .u8 0, .int .u8 0, .int .u8 0, .int .u8 0, .int .u8 0, .int .u8 0, .int .u8 0, .int .u8 0, .int .u8 0, .int .u8 0, .int .u8 0, .int .u8 0, .int .u8 0, .int .u8 0, .int .u8 0, .int .u8 0, .int .u8 0, .int .u8 0, .int .u8 0, .int .u8 0, .int .u8 0, .int .u8 0, .int .u8 0, .int .u8 0, .int .u8 0, .int .u8 0, .int .u8 0, .int .u8 0, .int .u8 0, .int .u8 0, .int .u8 0, .int .u8 0, .int .u8 0, .int .u8 0, .int .u8 0, .int .u8 0, .int .u8 0, .int .u8 0, .int .u8 0, .int .u8 0, .int .u8 0, .int .u8 0, .int .u8 0, .int .u8 0, .int .u8 0, .int .u8 0, .int .u8 0, .int .u8 0, .int .u8 0, .int .u8 0, .int .u8 0, .int .u8 0, .int .u8 0, .int .u8 0, .int .u8 0, .int .u8 0, .int .u8 0, .int .u8 0, .int .u8 0, .int .u8 0, .int .u8 0, .int .u8 0, .int .u8 0, .int .u8 0, .int .u8 0, .int .u8 0, .int .u8 0, .int .u8 0, .int .u8 0, .int .u8 0, .int .u8 0, .int .u8 0, .int .u8 0, .int .u8 0, .int .u8 0, .int .u8 0, .int .u8 0, .int .u8 0, .int .u8 0, .int .u8 0, .int .u8 0, .int .u8 0, .int .u8 0, .int .u8 0, .int .u8 0, .int .u8 0, .int .u8 0, .int .u8 0, .int .u8 0, .int .u8 0, .int .u8 0, .int .u8 0, .int .u8 0, .int .u8 0, .int .u8 0, .int .u8 0, .int .u8 0, .int .u8 0, .int .u8 0, .int .u8 0, .int .u8 0, .int .u8 0, .int .u8 0, .int .u8 0, .int .u8 0, .int .u8 0, .int .u8 0, .int .u8 0, .int .u8 0, .int .u8 0, .int .u8 0, .int .u8 0, .int .u8 0, .int .u8 0, .int .u8 0, .int .u8 0, .int .u8 0, .int .u8 0, .int .u8 0, .int .u8 0, .int .u8 0, .int .u8 0, .int .u8 0, .int .u8 0, .int .u8 0, .int .u8 0, .int .u8 0, .int .u8 0, .int .u8 0, .int .u8 0, .int .u8 0, .int .u8 0, .int .u8 0, .int .u8 0, .int .u8 0, .int .u8 0, .int .u8 0, .int .u8 0, .int .u8 0, .int .u8 0, .int .u8 0, .int .u8 0, .int .u8 0, .int .u8 0, .int .u8 0, .int .u8 0, .int .u8 0, .int .u8 0, .int .u8 0, .int .u8 0, .int .u8 0, .int .u8 0, .int .u8 0, .int .u8 0, .int .u8 0, .int .u8 0, .int .u8 0, .int .u8 0, .int .u8 0, .int .u8 0, .int .u8 0, .int .u8 0, .int .u8 0, .int .u8 0, .int .u8 0, .int .u8 0, .int .u8 0, .int .u8 0, .int .u8 0, .int .u8 0, .int .u8 0, .int .u8 0, .int .u8 0, .int .u8 0, .int .u8 0, .int .u8 0, .int .u8 0, .int .u8 0, .int .u8 0, .int .u8 0, .int .u8 0, .int .u8 0, .int .u8 0, .int .u8 0, .int .u8 0, .int .u8 0, .int .u8 0, .int .u8 0, .int .u8 0, .int .u8 0, .int .u8 0, .int .u8 0, .int .u8 0, .int .u8 0, .int .u8 0, .int .u8 0, .int .u8 0, .int .u8 0, .int .u8 0, .int .u8 0]) (by kernel_rfl) underlying126 ⟨rfl, rfl⟩ rfl rfl rfl rfl rfl rfl
theorem tok127 : TyOk prog (T 127) 127 := tyOk_agg (i := t127) (vs := [.int .u8 0, .int .u8 0]) (by kernel_rfl) underlying127 rfl rfl rfl rfl rfl rfl rfl
theorem tok128 : TyOk prog (T 128) 128 := tyOk_agg (i := t128) (vs := [.int .u8 0, .int .u8 0]) (by kernel_rfl) underlying128 rfl rfl rfl rfl rfl rfl rfl
theorem tok129 : TyOk prog (T 129) 129 := tyOk_agg (i := t129) (vs := [.int .u8 0, .int .u8 0, .int .u8 0, .int .u8 0, .int .u8 0, .int .u8 0, .int .u8 0, .int .u8 0, .int .u8 0, .int .u8 0, .int .u8 0, .int .u8 0, .int .u8 0, .int .u8 0, .int .u8 0, .int .u8 0, .int .u8 0, .int .u8 0, .int .u8 0, .int .u8 0, .int .u8 0, .int .u8 0, .int .u8 0, .int .u8 0, .int .u8 0, .int .u8 0, .int .u8 0, .int .u8 0, .int .u8 0, .int .u8 0, .int .u8 0, .int .u8 0]) (by kernel_rfl) underlying129 ⟨rfl, rfl⟩ rfl rfl rfl rfl rfl rfl
theorem tok130 : TyOk prog (T 130) 130 := tyOk_agg (i := t130) (vs := [.pointer none, .pointer none, .pointer none, .string ⟨#[]⟩]) (by kernel_rfl) underlying130 rfl rfl rfl rfl rfl rfl rfl
theorem tok131 : TyOk prog (T 131) 131 := tyOk_agg (i := t131) (vs := [.pointer none, .pointer none, .pointer none, .string ⟨#[]⟩]) (by kernel_rfl) underlying131 rfl rfl rfl rfl rfl rfl rfl
theorem tok132 : TyOk prog (T 132) 132 := tyOk_agg (i := t132) (vs := []) (by kernel_rfl) underlying132 ⟨rfl, rfl⟩ rfl rfl rfl rfl rfl rfl
theorem tok133 : TyOk prog (T 133) 133 := tyOk_agg (i := t133) (vs := []) (by kernel_rfl) underlying133 rfl rfl rfl rfl rfl rfl rfl
theorem tok134 : TyOk prog (T 134) 134 := tyOk_agg (i := t134) (vs := []) (by kernel_rfl) underlying134 rfl rfl rfl rfl rfl rfl rfl
theorem tok135 : TyOk prog (T 135) 135 := tyOk_one (i := t135) (z := .nilFunc) (by kernel_rfl) underlying135 trivial rfl rfl rfl rfl rfl rfl rfl
theorem tok136 : TyOk prog (T 136) 136 := tyOk_one (i := t136) (z := .int .u8 0) (by kernel_rfl) underlying136 rfl rfl rfl rfl rfl rfl rfl rfl
theorem tok137 : TyOk prog (T 137) 137 := tyOk_one (i := t137) (z := .int .u8 0) (by kernel_rfl) underlying137 rfl rfl rfl rfl rfl rfl rfl rfl
theorem tok138 : TyOk prog (T 138) 138 := tyOk_one (i := t138) (z := .nilFunc) (by kernel_rfl) underlying138 trivial rfl rfl rfl rfl rfl rfl rfl
theorem tok139 : TyOk prog (T 139) 139 := tyOk_one (i := t139) (z := .int .i32 0) (by kernel_rfl) underlying139 rfl rfl rfl rfl rfl rfl rfl rfl
theorem tok140 : TyOk prog (T 140) 140 := tyOk_one (i := t140) (z := .int .i32 0) (by kernel_rfl) underlying140 rfl rfl rfl rfl rfl rfl rfl rfl
theorem tok141 : TyOk prog (T 141) 141 := tyOk_agg (i := t141) (vs := [.int .u64 0, .int .u64 0, .int .u32 0, .int .u8 0, .int .u8 0, .int .u8 0, .int .u8 0, .nilFunc, .pointer none, .int .i32 0, .int .i32 0]) (by kernel_rfl) underlying141 rfl rfl rfl rfl rfl rfl rfl
theorem tok142 : TyOk prog (T 142) 142 := tyOk_agg (i := t142) (vs := [.int .u64 0, .int .u64 0, .int .u32 0, .int .u8 0, .int .u8 0, .int .u8 0, .int .u8 0, .nilFunc, .pointer none, .int .i32 0, .int .i32 0]) (by kernel_rfl) underlying142 rfl rfl rfl rfl rfl rfl rfl
theorem tok : TOk prog T := by
  refine tok_all tl.length (fun t ht => ?_) (fun t ht => ?_)
  · have : T t = other := by simp only [T, List.getD_eq_getElem?_getD]; rw [List.getElem?_eq_none ht]; rfl
    rw [this]
    rfl
  · have hlen : tl.length = 143 := rfl
    rw [hlen] at ht
    match t, ht with
    | 0, _ => exact fun h => absurd rfl h
    | 1, _ => exact fun h => tok1
    | 2, _ => exact fun h => tok2
    | 3, _ => exact fun h => tok3
    | 4, _ => exact fun h => tok4
    | 5, _ => exact fun h => tok5
    | 6, _ => exact fun h => tok6
    | 7, _ => exact fun h => tok7
    | 8, _ => exact fun h => tok8
    | 9, _ => exact fun h => tok9
    | 10, _ => exact fun h => tok10
    | 11, _ => exact fun h => tok11
    | 12, _ => exact fun h => tok12
    | 13, _ => exact fun h => tok13
    | 14, _ => exact fun h => tok14
    | 15, _ => exact fun h => tok15
    | 16, _ => exact fun h => tok16
    | 17, _ => exact fun h => tok17
    | 18, _ => exact fun h => tok18
    | 19, _ => exact fun h => tok19
    | 20, _ => exact fun h => tok20
    | 21, _ => exact fun h => tok21
    | 22, _ => exact fun h => tok22
    | 23, _ => exact fun h => tok23
    | 24, _ => exact fun h => tok24
    | 25, _ => exact fun h => tok25
    | 26, _ => exact fun h => absurd rfl h
    | 27, _ => exact fun h => tok27
    | 28, _ => exact fun h => tok28
    | 29, _ => exact fun h => tok29
    | 30, _ => exact fun h => tok30
    | 31, _ => exact fun h => tok31
    | 32, _ => exact fun h => absurd rfl h
    | 33, _ => exact fun h => tok33
    | 34, _ => exact fun h => tok34
    | 35, _ => exact fun h => tok35
    | 36, _ => exact fun h => tok36
    | 37, _ => exact fun h => tok37
    | 38, _ => exact fun h => tok38
    | 39, _ => exact fun h => tok39
    | 40, _ => exact fun h => tok40
    | 41, _ => exact fun h => tok41
    | 42, _ => exact fun h => tok42
    | 43, _ => exact fun h => tok43
    | 44, _ => exact fun h => absurd rfl h
    | 45, _ => exact fun h => tok45
    | 46, _ => exact fun h => absurd rfl h
    | 47, _ => exact fun h => tok47
    | 48, _ => exact fun h => absurd rfl h
    | 49, _ => exact fun h => tok49
    | 50, _ => exact fun h => tok50
    | 51, _ => exact fun h => tok51
    | 52, _ => exact fun h => tok52
    | 53, _ => exact fun h => tok53
    | 54, _ => exact fun h => tok54
    | 55, _ => exact fun h => tok55
    | 56, _ => exact fun h => tok56
    | 57, _ => exact fun h => tok57
    | 58, _ => exact fun h => tok58
    | 59, _ => exact fun h => tok59
    | 60, _ => exact fun h => tok60
    | 61, _ => exact fun h => tok61
    | 62, _ => exact fun h => tok62
    | 63, _ => exact fun h => absurd rfl h
    | 64, _ => exact fun h => tok64
    | 65, _ => exact fun h => tok65
    | 66, _ => exact fun h => absurd rfl h
    | 67, _ => exact fun h => tok67
    | 68, _ => exact fun h => tok68
    | 69, _ => exact fun h => tok69
    | 70, _ => exact fun h => tok70
    | 71, _ => exact fun h => tok71
    | 72, _ => exact fun h => tok72
    | 73, _ => exact fun h => tok73
    | 74, _ => exact fun h => tok74
    | 75, _ => exact fun h => tok75
    | 76, _ => exact fun h => tok76
    | 77, _ => exact fun h => absurd rfl h
    | 78, _ => exact fun h => tok78
    | 79, _ => exact fun h => tok79
    | 80, _ => exact fun h => tok80
    | 81, _ => exact fun h => tok81
    | 82, _ => exact fun h => absurd rfl h
    | 83, _ => exact fun h => tok83
    | 84, _ => exact fun h => tok84
    | 85, _ => exact fun h => tok85
    | 86, _ => exact fun h => tok86
    | 87, _ => exact fun h => absurd rfl h
    | 88, _ => exact fun h => tok88
    | 89, _ => exact fun h => absurd rfl h
    | 90, _ => exact fun h => tok90
    | 91, _ => exact fun h => tok91
    | 92, _ => exact fun h => tok92
    | 93, _ => exact fun h => tok93
    | 94, _ => exact fun h => tok94
    | 95, _ => exact fun h => tok95
    | 96, _ => exact fun h => tok96
    | 97, _ => exact fun h => tok97
    | 98, _ => exact fun h => absurd rfl h
    | 99, _ => exact fun h => tok99
    | 100, _ => exact fun h => absurd rfl h
    | 101, _ => exact fun h => tok101
    | 102, _ => exact fun h => tok102
    | 103, _ => exact fun h => tok103
    | 104, _ => exact fun h => tok104
    | 105, _ => exact fun h => absurd rfl h
    | 106, _ => exact fun h => tok106
    | 107, _ => exact fun h => tok107
    | 108, _ => exact fun h => tok108
    | 109, _ => exact fun h => tok109
    | 110, _ => exact fun h => tok110
    | 111, _ => exact fun h => tok111
    | 112, _ => exact fun h => tok112
    | 113, _ => exact fun h => tok113
    | 114, _ => exact fun h => tok114
    | 115, _ => exact fun h => tok115
    | 116, _ => exact fun h => tok116
    | 117, _ => exact fun h => tok117
    | 118, _ => exact fun h => tok118
    | 119, _ => exact fun h => absurd rfl h
    | 120, _ => exact fun h => tok120
    | 121, _ => exact fun h => tok121
    | 122, _ => exact fun h => tok122
    | 123, _ => exact fun h => absurd rfl h
    | 124, _ => exact fun h => tok124
    | 125, _ => exact fun h => tok125
    | 126, _ => exact fun h => tok126
    | 127, _ => exact fun h => tok127
    | 128, _ => exact fun h => tok128
    | 129, _ => exact fun h => tok129
    | 130, _ => exact fun h => tok130
    | 131, _ => exact fun h => tok131
    | 132, _ => exact fun h => tok132
    | 133, _ => exact fun h => tok133
    | 134, _ => exact fun h => tok134
    | 135, _ => exact fun h => tok135
    | 136, _ => exact fun h => tok136
    | 137, _ => exact fun h => tok137
    | 138, _ => exact fun h => tok138
    | 139, _ => exact fun h => tok139
    | 140, _ => exact fun h => tok140
    | 141, _ => exact fun h => tok141
    | 142, _ => exact fun h => tok142
    | t + 143, h => exact absurd h (by omega)
end Go.Mir.D
