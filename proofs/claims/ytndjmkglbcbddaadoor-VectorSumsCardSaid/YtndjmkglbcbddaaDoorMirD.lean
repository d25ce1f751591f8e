/- That the operations do so: the small laws (lists of cells, loads, stores). No condition. -/
import Derived.Test.YtndjmkglbcbddaaDoorMirC
import Derived.Laws.Cells
import Derived.Laws.CopyRow
set_option linter.unusedVariables false
namespace Go.Mir

def VRL (w : World) (S : Nat → Prop) (E : List Slot) (cs : List AV) (vs : List Value) : Prop :=
  cs.length = vs.length ∧ ∀ (j : Nat) c v, cs[j]? = some c → vs[j]? = some v → VR w S E c v

section
variable {w w' : World} {S S' : Nat → Prop} {E E' : List Slot}
theorem VRL.nil : VRL w S E [] [] := ⟨rfl, fun j c v h => by simp at h⟩
theorem VRL.cons {c : AV} {v : Value} {cs : List AV} {vs : List Value} (h : VR w S E c v) (t : VRL w S E cs vs) : VRL w S E (c :: cs) (v :: vs) :=
  ⟨by simp [t.1], fun j c' v' h1 h2 => by
    cases j with
    | zero => simp at h1 h2; subst h1 h2; exact h
    | succ j => exact t.2 j c' v' (by simpa using h1) (by simpa using h2)⟩
theorem VRL.one {c : AV} {v : Value} (h : VR w S E c v) : VRL w S E [c] [v] := .cons h .nil
theorem VRL.app {a b : List AV} {x y : List Value} (h : VRL w S E a x) (t : VRL w S E b y) : VRL w S E (a ++ b) (x ++ y) := by
  refine ⟨by simp [h.1, t.1], fun j c v h1 h2 => ?_⟩
  by_cases hj : j < a.length
  · rw [List.getElem?_append_left hj] at h1
    rw [List.getElem?_append_left (by rw [← h.1]; exact hj)] at h2
    exact h.2 j c v h1 h2
  · rw [List.getElem?_append_right (by omega)] at h1
    rw [List.getElem?_append_right (by rw [← h.1]; omega), ← h.1] at h2
    exact t.2 _ c v h1 h2
theorem VRL.split {a b : List AV} {z : List Value} (h : VRL w S E (a ++ b) z) : ∃ x y, z = x ++ y ∧ VRL w S E a x ∧ VRL w S E b y := by
  have hl : a.length + b.length = z.length := by rw [← h.1]; simp
  refine ⟨z.take a.length, z.drop a.length, (List.take_append_drop _ _).symm, ⟨by simp; omega, fun j c v h1 h2 => ?_⟩, ⟨by simp; omega, fun j c v h1 h2 => ?_⟩⟩
  · have hj := (List.getElem?_eq_some_iff.1 h1).1
    rw [List.getElem?_take, if_pos hj] at h2
    exact h.2 j c v (by rw [List.getElem?_append_left hj]; exact h1) h2
  · rw [List.getElem?_drop] at h2
    exact h.2 (a.length + j) c v (by rw [List.getElem?_append_right (by omega)]; simpa using h1) h2
theorem VRL.mono {cs : List AV} {vs : List Value} (h : VRL w S E cs vs) (hf : FrameW S w w') (hs : ∀ b, b < w.heap.size → S' b → S b) (he : ExtE E E') : VRL w' S' E' cs vs :=
  ⟨h.1, fun j c v h1 h2 => (h.2 j c v h1 h2).mono hf hs he⟩
theorem VR.of_agg {cs : List AV} {x : Value} (h : VR w S E (.agg cs) x) : ∃ vs, x = .agg ⟨vs⟩ ∧ VRL w S E cs vs := by
  cases h with | agg hl h => exact ⟨_, rfl, hl, h⟩
theorem VR.of_tup {cs : List AV} {x : Value} (h : VR w S E (.tup cs) x) : ∃ vs, x = .tuple ⟨vs⟩ ∧ VRL w S E cs vs := by
  cases h with | tup hl h => exact ⟨_, rfl, hl, h⟩
theorem VRL.agg {cs : List AV} {vs : List Value} (h : VRL w S E cs vs) : VR w S E (.agg cs) (.agg ⟨vs⟩) := .agg h.1 h.2
theorem VRL.tup {cs : List AV} {vs : List Value} (h : VRL w S E cs vs) : VR w S E (.tup cs) (.tuple ⟨vs⟩) := .tup h.1 h.2

theorem VR.one {c : AV} {v : Value} (h : VR w S E c v) (ho : c.one = true) : v.oneCell' = true := by
  cases h <;> first | rfl | cases ho
theorem cells_one {v : Value} (h : v.oneCell' = true) : v.cells = #[v] := by cases v <;> first | rfl | cases h
end

theorem cut_spec : ∀ {l : List AV} {n : Nat} {K : List AV → Prop}, cut l n K → ∃ a b, l = a ++ b ∧ a.length = n ∧ K a
  | l, 0, K, h => ⟨[], l, rfl, rfl, by cases l <;> exact h⟩
  | c :: cs, n + 1, K, h => by
    obtain ⟨a, b, e, hl, hk⟩ := cut_spec (l := cs) (n := n) h
    exact ⟨c :: a, b, by rw [e]; rfl, by simp [hl], hk⟩
  | [], _ + 1, _, h => h.elim
theorem skip_spec : ∀ {l : List AV} {n : Nat} {K : List AV → Prop}, skip l n K → ∃ a b, l = a ++ b ∧ a.length = n ∧ K b
  | l, 0, K, h => ⟨[], l, rfl, rfl, by cases l <;> exact h⟩
  | c :: cs, n + 1, K, h => by
    obtain ⟨a, b, e, hl, hk⟩ := skip_spec (l := cs) (n := n) h
    exact ⟨c :: a, b, by rw [e]; rfl, by simp [hl], hk⟩
  | [], _ + 1, _, h => h.elim
theorem splice_spec : ∀ {cs : List AV} {off : Nat} {vs : List AV} {K : List AV → Prop}, splice cs off vs K → ∃ a b c, cs = a ++ b ++ c ∧ a.length = off ∧ b.length = vs.length ∧ K (a ++ vs ++ c)
  | cs, 0, [], K, h => ⟨[], [], cs, rfl, rfl, rfl, by cases cs <;> exact h⟩
  | c :: cs, 0, v :: vs, K, h => by
    obtain ⟨a, b, d, e, hl, hb, hk⟩ := splice_spec (cs := cs) (off := 0) (vs := vs) h
    have : a = [] := List.eq_nil_of_length_eq_zero hl
    subst this
    exact ⟨[], c :: b, d, by rw [e]; rfl, rfl, by simp [hb], hk⟩
  | [], 0, _ :: _, _, h => h.elim
  | c :: cs, n + 1, vs, K, h => by
    obtain ⟨a, b, d, e, hl, hb, hk⟩ := splice_spec (cs := cs) (off := n) (vs := vs) (K := fun l => K (c :: l)) (by cases vs <;> exact h)
    exact ⟨c :: a, b, d, by rw [e]; rfl, by simp [hl], hb, hk⟩
  | [], _ + 1, vs, _, h => by cases vs <;> exact h.elim
theorem flat_spec {t : TI} {v : AV} {K : List AV → Prop} (h : flat t v K) : ∃ cs, K cs ∧ ((t.k.agg = true ∧ v = .agg cs) ∨ (t.k.agg = false ∧ v.one = true ∧ cs = [v])) := by
  unfold flat at h
  split at h
  · rename_i ha
    split at h
    · exact ⟨_, h, .inl ⟨ha, rfl⟩⟩
    · exact h.elim
  · rename_i ha
    have h := headA_spec (K := fun v => v.one = true ∧ K [v]) h
    exact ⟨_, h.2, .inr ⟨ha, h.1, rfl⟩⟩
theorem wrap_spec {t : TI} {l : List AV} {K : AV → Prop} (h : wrapAV t l K) : ∃ v, K v ∧ ((t.k.agg = true ∧ v = .agg l) ∨ (t.k.agg = false ∧ l = [v])) := by
  unfold wrapAV at h
  split at h
  · rename_i ha; exact ⟨_, h, .inl ⟨ha, rfl⟩⟩
  · rename_i ha
    split at h
    · exact ⟨_, h, .inr ⟨ha, rfl⟩⟩
    · exact h.elim
theorem flat_cells {w : World} {S : Nat → Prop} {E : List Slot} {t : TI} {v : AV} {x : Value} {cs : List AV} (h : VR w S E v x) (hc : (t.k.agg = true ∧ v = .agg cs) ∨ (t.k.agg = false ∧ v.one = true ∧ cs = [v])) : VRL w S E cs x.cells.toList := by
  rcases hc with ⟨_, rfl⟩ | ⟨_, ho, rfl⟩
  · obtain ⟨vs, rfl, h'⟩ := h.of_agg
    exact h'
  · rw [cells_one (h.one ho)]
    exact .one h

/-! ### Types -/
def KOk : TypeDesc → TK → Prop
  | .bool, .bool => True
  | .int k, .int k' => k = k'
  | .string, .str => True
  | .pointer e, .ptr e' => e = e'
  | .slice e, .slice e' => e = e'
  | .array n e, .array n' e' => n = n' ∧ e = e'
  | .map k e, .map k' e' => k = k' ∧ e = e'
  | .struct fs, .struct fs' => fs.toList.map (fun f => (f.type, f.offset)) = fs'
  | .func _ _ _, .func => True
  | .interface _, .iface => True
  | _, _ => False

/-- A zero value reads so in whatever world. -/
def ZOk (t : TI) (z : Value) : Prop := t.zero.length = t.size ∧ AV.closed.closeds t.zero = true ∧
  ((t.k.agg = true ∧ ∃ vs, z = .agg ⟨vs⟩ ∧ ∀ w S E, VRL w S E t.zero vs) ∨ (t.k.agg = false ∧ z.oneCell' = true ∧ ∃ c, t.zero = [c] ∧ ∀ w S E, VR w S E c z))

def TOk (P : Program) (T : Nat → TI) : Prop := ∀ t, (∀ h : (T t).k = .other, False) → ∃ i d z, P.info? t = some i ∧ P.underlying t = some d ∧ KOk d (T t).k ∧ i.size = (T t).size ∧ i.bytes = (T t).bytes ∧ i.zero = some z ∧ ZOk (T t) z

section
variable {P : Program} {T : Nat → TI}
theorem run_isAgg {t : Nat} {d : TypeDesc} {k : TK} (hu : P.underlying t = some d) (hk : KOk d k) (w : World) : (isAgg t).run P w = .ok k.agg w := by
  unfold isAgg
  simp only [Sem.run_bind, run_underlying hu, Result.andThen_ok]
  cases d <;> cases k <;> first | rfl | exact hk.elim
theorem run_sizeOf {t : Nat} {i : TypeInfo} (hi : P.info? t = some i) (w : World) : (sizeOf t).run P w = .ok i.size w := by
  simp [sizeOf, typeInfo, hi]
theorem run_typeInfo {t : Nat} {i : TypeInfo} (hi : P.info? t = some i) (w : World) : (typeInfo t).run P w = .ok i w := by
  simp [typeInfo, hi]
theorem run_zeroValue {t : Nat} {i : TypeInfo} {z : Value} (hi : P.info? t = some i) (hz : i.zero = some z) (w : World) : (zeroValue t).run P w = .ok z w := by
  simp [zeroValue, typeInfo, hi, hz]

theorem addr_add (b o n : Nat) : Addr.add ⟨b, o, none⟩ n = ⟨b, o + n, none⟩ := by unfold Addr.add; split <;> simp_all

/-- A variable is read. -/
theorem run_loadVar {t : Nat} {i : TypeInfo} {d : TypeDesc} {k : TK} (hi : P.info? t = some i) (hu : P.underlying t = some d) (hk : KOk d k) (w : World) (b o : Nat) (vs : List Value) (hl : vs.length = i.size)
    (hc : ∀ j v, vs[j]? = some v → w.cell? ⟨b, o + j, none⟩ = some v) :
    (k.agg = true → (loadVar t ⟨b, o, none⟩).run P w = .ok (.agg ⟨vs⟩) w) ∧ (k.agg = false → ∀ v, vs = [v] → (loadVar t ⟨b, o, none⟩).run P w = .ok v w) := by
  constructor
  · intro ha
    have h1 := run_loadCells_list (P := P) w ⟨b, o, none⟩ vs (fun j v h => by rw [addr_add]; exact hc j v h)
    simp only [loadVar, Sem.run_bind, run_isAgg hu hk, Result.andThen_ok, ha, if_true, run_sizeOf hi, ← hl, h1, Sem.run_pure]
  · rintro ha v rfl
    have h1 := hc 0 v rfl
    simp only [Nat.add_zero] at h1
    simp only [loadVar, Sem.run_bind, run_isAgg hu hk, Result.andThen_ok, ha, Bool.false_eq_true, if_false, run_load, h1]

/-- A variable in an owned row of cells is written. -/
theorem run_storeVar {t : Nat} {i : TypeInfo} (hi : P.info? t = some i) (w : World) (b o : Nat) (cur : Array Value) (tt : TypeId) (x : Value) (hg : w.heap[b]? = some (.cells cur tt (0, 0)))
    (hl : x.cells.size = i.size) (hfit : o + i.size ≤ cur.size) (h1 : ∀ v ∈ x.cells.toList, v.oneCell' = true) :
    (storeVar t ⟨b, o, none⟩ x).run P w = .ok () (w.setRow b (cur.toList.take o ++ x.cells.toList ++ cur.toList.drop (o + i.size)).toArray) := by
  have := run_storeCells_at P b o tt x.cells.toList 0 cur w hg (by simpa [hl] using hfit) h1
  simp only [Nat.add_zero, Array.length_toList, hl] at this
  simp only [storeVar, Sem.run_bind, run_sizeOf hi, Result.andThen_ok, hl, ne_eq, not_true_eq_false, if_false, this]
end
end Go.Mir
