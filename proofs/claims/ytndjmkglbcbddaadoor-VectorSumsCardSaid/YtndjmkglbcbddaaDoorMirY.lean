/- Functions that the model answers itself; contracts from the shelf. No condition. -/
import Derived.Test.YtndjmkglbcbddaaDoorMirX
import Derived.Laws.Externs
import Derived.Lib.Bytealg
set_option linter.unusedVariables false
namespace Go.Mir

section
variable {P : Program} {T : Nat → TI}
/-- A function that the model answers itself. -/
theorem Spec0.ext {f : FuncId} {fn : Func} {e : Array Value → Sem Value} (hf : P.funcs[f]? = some fn) (hname : (fn.name == "runtime.NumGoroutine") = false) (hb : fn.body.isNone = true) (hn : Extern.findNext fn = none) (he : Extern.find fn = some e) {as : List AV} {r : AV}
    (h : ∀ (w : World) (S : Nat → Prop) (vs : List Value), VRL w S [] as vs → ∃ v, (e ⟨vs⟩).run P w = .ok v w ∧ VR w S [] r v) : Spec0 P f as r := by
  intro w S vs hS hl hv
  obtain ⟨v, h1, h2⟩ := h w S vs ⟨hl, hv⟩
  exact .inr (.inl ⟨v, w, by rw [run_callFunc_extern hf hname hb hn he, h1]; rfl, ⟨rfl, rfl, rfl, Nat.le_refl _, fun _ _ _ => rfl⟩, h2⟩)

theorem two_inv {w : World} {S : Nat → Prop} {x y : AV} {vs : List Value} (h : VRL w S [] [x, y] vs) : ∃ a b, vs = [a, b] ∧ VR w S [] x a ∧ VR w S [] y b := by
  have hl := h.1
  match vs, hl with
  | [a, b], _ => exact ⟨a, b, rfl, h.2 0 _ _ rfl rfl, h.2 1 _ _ rfl rfl⟩

theorem count_spec {f : FuncId} {fn : Func} (hf : P.funcs[f]? = some fn) (hname : (fn.name == "runtime.NumGoroutine") = false) (hb : fn.body.isNone = true) (hn : Extern.findNext fn = none) (he : Extern.find fn = some Extern.BytealgCount.count) (s : ByteArray) (c : Int) :
    Spec0 P f [.str s, .int .u8 c] (.int .i64 (Lib.countByte s.data.toList c.toNat.toUInt8)) :=
  .ext hf hname hb hn he fun w S vs h => by
    obtain ⟨a, b, rfl, ha, hb⟩ := two_inv h
    cases ha with | str => cases hb with | int =>
    exact ⟨_, Lib.run_countString s c w, .int⟩
theorem index_spec {f : FuncId} {fn : Func} (hf : P.funcs[f]? = some fn) (hname : (fn.name == "runtime.NumGoroutine") = false) (hb : fn.body.isNone = true) (hn : Extern.findNext fn = none) (he : Extern.find fn = some Extern.BytealgIndexByte.indexByte) (s : ByteArray) (c : Int) :
    Spec0 P f [.str s, .int .u8 c] (.int .i64 (firstIdx s c.toNat.toUInt8)) :=
  .ext hf hname hb hn he fun w S vs h => by
    obtain ⟨a, b, rfl, ha, hb⟩ := two_inv h
    cases ha with | str => cases hb with | int =>
    exact ⟨_, run_indexByte_string s c w, .int⟩
end
end Go.Mir
