/- From a contract of the calculus to a law's row: what is read as data reads as abstract values; what a law leaves. No condition. -/
import Derived.Test.YtndjmkglbcbddaaDoorMirV
import Derived.ProofKit
import Derived.OpenShut
import Derived.Carry
import Derived.ChangeSame
import Derived.ChangeArms
import Derived.WideKeyArgs
import Derived.RowKit
set_option linter.unusedVariables false
namespace Go.Mir
open Go.ChangeShapes Go.WideShapes Go.RowKit Go.WideElems

section
variable {H : Type} {enc : TypeId × Value → H} {P : Program}

/-- What a law leaves whose call wrote nothing that was there. -/
theorem post_below {f : Func} {s : ChangeSpec} {apart fresh handsOn again : Bool} {W W' : World} {args : Array Value} {v : Value} {ds gs : List (DataW H)} {before pa pv : List MemPlace}
    (hW : DataW.Whole enc P f.params.toList s.vars apart W args.toList ds gs before)
    (hres : ∀ (b : Nat) (sp : Nat → Bool) (hd : Bool), DataW.TrodAll enc P W' b sp hd f.resultTypes.toList (v.resultList f.resultTypes.size) (s.fn H (ds ++ gs)).results [])
    (hargs : ∀ sp : Nat → Bool, (∀ p ∈ before, sp p.block = true) → DataW.TrodAll enc P W' 0 sp true f.params.toList args.toList (s.fn H (ds ++ gs)).args pa)
    (hvars : ∀ sp : Nat → Bool, (∀ p ∈ before, sp p.block = true) → DataW.TrodVars enc P W' sp s.vars (s.fn H (ds ++ gs)).vars pv)
    (hps : before = pa ++ pv) (hb : Below W.heap.size W W')
    (hok : ∀ (j : Nat) (t : TypeId) (r : Value), f.resultTypes[j]? = some t → (v.resultList f.resultTypes.size)[j]? = some r → Value.okWide P W' .any 0 t r) :
    s.post enc P f apart fresh handsOn again W args v W' := by
  have hlt : ∀ p ∈ before, p.block < W.heap.size := fun p hp => hW.lt p hp
  have hold : ∀ p ∈ before, (fun b => decide (b < W.heap.size)) p.block = true := fun p hp => by simpa using hlt p hp
  refine ⟨ds, gs, before, [], pa, pv, hW, hres _ _ _, hargs _ hold, hvars _ hold, World.keptBut_mono (fun p hp => ⟨hp, ?_⟩) (hb.frame (· ∈ before)), fun _ => ?_⟩
  · rw [hps, List.mem_append] at hp
    exact Or.inr hp
  · obtain ⟨_, _, _, _, _, hz, hn⟩ := hW
    refine ⟨hok, _, _, ([] ++ pa) ++ pv, ⟨[] ++ pa, pv, trodAll_append (hargs _ (fun _ _ => rfl)) (hres _ _ _), hvars _ (fun _ _ => rfl), rfl, ?_, ?_⟩, ?_⟩
    · intro b off hp
      have hin : MemPlace.cell b off ∈ before := by rw [hps]; simpa using hp
      rw [hb.frozen (hlt _ hin)]
      exact hz b off hin
    · intro ha
      have := hn ha
      rw [hps] at this
      simpa using this
    · intro p hp _
      rw [hps]
      simpa using hp

theorem trodAll_stays (hl : laidOutB P = true) {W W' : World} {sp : Nat → Bool} : ∀ {ts : List TypeId} {vs : List Value} {ds : List (DataW H)} {ps : List MemPlace}, (∀ t ∈ ts, P.readableRec t = true ∧ t < P.types.size) → DataW.TrodAll enc P W 0 (fun _ => true) true ts vs ds ps →
    (∀ p ∈ ps, W.sameAt W' p) → (∀ p ∈ ps, sp p.block = true) → DataW.TrodAll enc P W' 0 sp true ts vs ds ps
  | [], [], [], ps, _, h, _, _ => h
  | t :: ts, v :: vs, d :: ds, ps, ht, h, h1, h2 => by
    obtain ⟨p, q, ha, hb, rfl⟩ := h
    exact ⟨p, q, Trod_stays hl (ht t (by simp)).1 (ht t (by simp)).2 ha (fun x hx => h1 x (by simp [hx])) (fun x hx => h2 x (by simp [hx])),
      trodAll_stays hl (fun t h => ht t (by simp [h])) hb (fun x hx => h1 x (by simp [hx])) (fun x hx => h2 x (by simp [hx])), rfl⟩
  | [], _ :: _, _, _, _, h, _, _ => by cases h
  | [], [], _ :: _, _, _, h, _, _ => by cases h
  | _ :: _, [], _, _, _, h, _, _ => by cases h
  | _ :: _, _ :: _, [], _, _, h, _, _ => by cases h

/-- A law whose contract says 'true', in the form that its row asks. -/
theorem law_post {k : FuncId} {fn : Func} {c : Code} {s : ChangeSpec} {apart fresh handsOn again : Bool} {tb : TypeId} (hf : P.funcs[k]? = some fn) (hb : fn.body = some c) (hn : (fn.name == "runtime.NumGoroutine") = false)
    (hl : laidOutB P = true) (hps : ∀ t ∈ fn.params.toList, P.readableRec t = true ∧ t < P.types.size) (hr : fn.resultTypes = #[tb]) (ht : P.underlying tb = some .bool) (hv : s.vars = [])
    {W : World} {args : Array Value} {ds gs : List (DataW H)} {before : List MemPlace} (hW : DataW.Whole enc P fn.params.toList s.vars apart W args.toList ds gs before) (hfn : s.fn H (ds ++ gs) = { results := [.lit (.bool true)], args := ds })
    {as : List AV} (hvr : VRL W (fun _ => False) [] as args.toList) (hspec : Spec0 P k as (.bool true)) :
    Calls P k args W fun e W' => ∃ v, e = .returned v ∧ s.post enc P fn apart fresh handsOn again W args v W' := by
  have hi := hspec W (fun _ => False) args.toList (fun b h => h.elim) hvr.1 hvr.2
  have henter : ∀ vs : Array Value, (callFunc k vs).run P W = .ok (.enter k vs) W := by
    intro vs
    simp only [callFunc, Sem.run_bind, run_program, Result.andThen_ok, hf, hn, Bool.false_eq_true, if_false, hb, Option.isNone_some, Sem.run_pure]
  rcases hi with ⟨_, h⟩ | ⟨v, w', h1, _⟩ | ⟨row, as', w', h1, _⟩
  · refine h.mono fun e W' ⟨v, he, hfr, hvr'⟩ => ⟨v, he, ?_⟩
    cases hvr'
    have hbelow : Below W.heap.size W W' := hfr.below
    have hW0 := hW
    have hlt : ∀ p ∈ before, p.block < W.heap.size := fun p hp => hW.lt p hp
    obtain ⟨p, q, hA, hV, hpq, _, _⟩ := hW
    rw [hv] at hV
    obtain ⟨hg, hq⟩ := trodVars_none hV
    subst hg hq
    refine post_below (pa := p) (pv := []) hW0 ?_ ?_ ?_ hpq hbelow ?_
    · intro b sp hd
      rw [hfn, hr]
      exact trodAll_mk1 (shut_bool ht true)
    · intro sp hsp
      rw [hfn]
      exact trodAll_stays hl hps hA (fun x hx => hbelow.same (hlt x (by rw [hpq]; simp [hx]))) (fun x hx => hsp x (by rw [hpq]; simp [hx]))
    · intro sp _
      rw [hfn, hv]
      rfl
    · rw [hr]
      intro j t r h1 h2
      cases j with
      | zero =>
        simp at h1 h2
        subst h1
        have : r = .bool true := by
          have := h2
          simp [Value.resultList] at this
          exact this.symm
        subst this
        exact okWide_bool_mk ht true
      | succ j => simp at h1
  · rw [henter] at h1; cases h1
  · rw [henter] at h1; cases h1

/-! ### What is read as data -/
/-- Cells that are read at a type read as 'mk a' for some 'a'. -/
def Cod (P : Program) (t : TypeId) {α : Type} (mk : α → List AV) (ok : α → Prop) : Prop :=
  ∀ (W : World) (H : Type) (enc : TypeId × Value → H) (base : Nat) (sp : Nat → Bool) (held : Bool) (fuel : Nat) (cs : List Value) (x : DataW H × List MemPlace), DataW.trod enc P W base sp held fuel t cs = some x →
    ∃ a, ok a ∧ VRL W (fun _ => False) [] (mk a) cs

theorem Cod.int {t : TypeId} {k : IntKind} (ht : P.underlying t = some (.int k)) : Cod P t (fun n : Int => [.int k n]) (fun n => (Lit.int k n).wf = true) := by
  intro W H enc base sp held fuel cs x h
  obtain ⟨n, rfl, _, hw⟩ := DataW.trod_int ht h
  exact ⟨n, hw, .cons .int .nil⟩
theorem Cod.bool {t : TypeId} (ht : P.underlying t = some .bool) : Cod P t (fun b : Bool => [.bool b]) (fun _ => True) := by
  intro W H enc base sp held fuel cs x h
  cases fuel with
  | zero => simp [DataW.trod] at h
  | succ n =>
    unfold DataW.trod at h
    rw [ht] at h
    split at h <;> first | (cases h; done) | skip
    all_goals first | (rename_i e; cases e; done) | skip
    exact ⟨_, trivial, .cons .bool .nil⟩
theorem Cod.str {t : TypeId} (ht : P.underlying t = some .string) : Cod P t (fun s : ByteArray => [.str s]) (fun s => s.size ≤ maxLen) := by
  intro W H enc base sp held fuel cs x h
  obtain ⟨s, rfl, _, hw⟩ := DataW.trod_string ht h
  exact ⟨s, hw, .cons .str .nil⟩
theorem Cod.map {t : TypeId} {α β : Type} {mk : α → List AV} {ok : α → Prop} {mk' : β → List AV} {ok' : β → Prop} (g : α → β) (h : Cod P t mk ok) (he : ∀ a, ok a → mk' (g a) = mk a ∧ ok' (g a)) : Cod P t mk' ok' := by
  intro W H enc base sp held fuel cs x hx
  obtain ⟨a, h1, h2⟩ := h W H enc base sp held fuel cs x hx
  exact ⟨g a, (he a h1).2, by rw [(he a h1).1]; exact h2⟩

/-- A struct's fields, from a place on. -/
def CodF (P : Program) (fs : List Field) (off : Nat) {α : Type} (mk : α → List AV) (ok : α → Prop) : Prop :=
  ∀ (W : World) (H : Type) (enc : TypeId × Value → H) (base : Nat) (sp : Nat → Bool) (held : Bool) (fuel : Nat) (cs : List Value) (xs : List (DataW H × List MemPlace)),
    (∀ (i : Nat) (f : Field), fs[i]? = some f → DataW.trod enc P W base sp held fuel f.type ((cs.drop f.offset).take (P.cellsOf f.type)) = xs[i]?) → xs.length = fs.length → cs.length = off + (fs.map fun f => P.cellsOf f.type).sum →
    ∃ a, ok a ∧ VRL W (fun _ => False) [] (mk a) (cs.drop off)
theorem CodF.nil {off : Nat} : CodF P [] off (fun _ : Unit => []) (fun _ => True) := by
  intro W H enc base sp held fuel cs xs _ _ hl
  refine ⟨(), trivial, ?_⟩
  rw [List.drop_eq_nil_of_le (by simp at hl; omega)]
  exact .nil
theorem CodF.cons {f : Field} {fs : List Field} {off : Nat} {α β : Type} {mk : α → List AV} {ok : α → Prop} {mk' : β → List AV} {ok' : β → Prop} (ho : f.offset = off) (h : Cod P f.type mk ok) (hr : CodF P fs (off + P.cellsOf f.type) mk' ok') :
    CodF P (f :: fs) off (fun p : α × β => mk p.1 ++ mk' p.2) (fun p => ok p.1 ∧ ok' p.2) := by
  intro W H enc base sp held fuel cs xs hx hl hc
  have h0 := hx 0 f rfl
  have hlen : 0 < xs.length := by rw [hl]; simp
  rw [List.getElem?_eq_getElem hlen, ho] at h0
  obtain ⟨a, h1, h2⟩ := h W H enc base sp held fuel _ _ h0
  obtain ⟨b, h3, h4⟩ := hr W H enc base sp held fuel cs xs.tail (fun i g hg => by
    have := hx (i + 1) g (by simpa using hg)
    rw [this]
    cases xs with
    | nil => simp at hlen
    | cons x xs => simp) (by simp [hl]) (by simp at hc; omega)
  refine ⟨(a, b), ⟨h1, h3⟩, ?_⟩
  have e : cs.drop off = (cs.drop off).take (P.cellsOf f.type) ++ cs.drop (off + P.cellsOf f.type) := by
    rw [← List.drop_drop, List.take_append_drop]
  rw [e]
  exact h2.app h4
theorem Cod.struct {t : TypeId} {fs : Array Field} {α : Type} {mk : α → List AV} {ok : α → Prop} (ht : P.underlying t = some (.struct fs)) (hc : P.cellsOf t = (fs.toList.map fun f => P.cellsOf f.type).sum) (h : CodF P fs.toList 0 mk ok) : Cod P t mk ok := by
  intro W H enc base sp held fuel cs x hx
  obtain ⟨xs, n, _, _, hl, hxl, hf⟩ := DataW.trod_struct ht hx
  obtain ⟨a, h1, h2⟩ := h W H enc base sp held n cs xs (fun i f hi => hf i f (by simpa using hi)) (by simpa using hxl) (by rw [hl, hc]; simp)
  exact ⟨a, h1, by simpa using h2⟩

/-- Equal parts, one behind another. -/
theorem Cod.array {t : TypeId} {n : Nat} {e : TypeId} {α : Type} {mk : α → List AV} {ok : α → Prop} (ht : P.underlying t = some (.array n e)) (hc : P.cellsOf t = n * P.cellsOf e) (h : Cod P e mk ok) :
    Cod P t (fun l : List α => (l.map mk).flatten) (fun l => l.length = n ∧ ∀ a ∈ l, ok a) := by
  intro W H enc base sp held fuel cs x hx
  obtain ⟨xs, m, _, _, hl, hxl, hf⟩ := DataW.trod_array ht hx
  have key : ∀ k, k ≤ n → ∃ l : List α, l.length = k ∧ (∀ a ∈ l, ok a) ∧ VRL W (fun _ => False) [] (l.map mk).flatten (cs.take (k * P.cellsOf e)) := by
    intro k
    induction k with
    | zero => intro _; exact ⟨[], rfl, fun a h => (by cases h), by simp; exact .nil⟩
    | succ k ih =>
      intro hk
      obtain ⟨l, h1, h2, h3⟩ := ih (by omega)
      have h4 := hf k (by omega)
      rw [List.getElem?_eq_getElem (by omega)] at h4
      obtain ⟨a, h5, h6⟩ := h W H enc base sp held m _ _ h4
      refine ⟨l ++ [a], by simp [h1], fun b hb => ?_, ?_⟩
      · rcases List.mem_append.1 hb with hb | hb
        · exact h2 b hb
        · rw [List.mem_singleton.1 hb]; exact h5
      · have e1 : cs.take ((k + 1) * P.cellsOf e) = cs.take (k * P.cellsOf e) ++ (cs.drop (k * P.cellsOf e)).take (P.cellsOf e) := by
          rw [Nat.succ_mul, List.take_add]
        rw [e1]
        have := h3.app h6
        simpa using this
  obtain ⟨l, h1, h2, h3⟩ := key n (Nat.le_refl _)
  refine ⟨l, ⟨h1, h2⟩, ?_⟩
  rwa [← hc, List.take_of_length_le (by omega)] at h3

/-- A slice reads as a list. -/
theorem Cod.slice {t e : TypeId} {α : Type} {mk : α → List AV} {ok : α → Prop} (d : α) (ht : P.underlying t = some (.slice e)) (hsz : ∀ a, ok a → (mk a).length = P.cellsOf e) (h0 : 0 < P.cellsOf e) (h : Cod P e mk ok) :
    Cod P t (fun l : List α => [.sl α mk (P.cellsOf e) d l]) (fun l => l.length ≤ maxLen ∧ ∀ a ∈ l, ok a) := by
  intro W H enc base sp held fuel cs x hx
  rcases DataW.trod_slice ht hx with ⟨rfl, _⟩ | ⟨a, len, cap, elems, rest, n, _, rfl, _, hb, hl, hm, hlen, hel, _, _⟩
  · refine ⟨[], ⟨by simp, fun a h => by cases h⟩, .cons ?_ .nil⟩
    exact VLe.nils W _ _ _ .nils
  · have hat : ∀ i, i < len → ∃ y : α, ok y ∧ ∃ cs', W.cells? base (a.add (i * P.cellsOf e)) (P.cellsOf e) = some cs' ∧ VRL W (fun _ => False) [] (mk y) cs' := by
      intro i hi
      have h1 := hel i hi
      rw [List.getElem?_eq_getElem (by omega), Option.bind_eq_some_iff] at h1
      obtain ⟨cs', h2, h3⟩ := h1
      obtain ⟨y, h4, h5⟩ := h W H enc base sp held n cs' _ h3
      exact ⟨y, h4, cs', h2, h5⟩
    let Y : Nat → α := fun i => if hi : i < len then (hat i hi).choose else d
    have hY : ∀ i (hi : i < len), ok (Y i) ∧ ∃ cs', W.cells? base (a.add (i * P.cellsOf e)) (P.cellsOf e) = some cs' ∧ VRL W (fun _ => False) [] (mk (Y i)) cs' := by
      intro i hi
      have := (hat i hi).choose_spec
      simp only [Y, dif_pos hi]
      exact this
    have hxs : ∀ i x, ((List.range len).map Y)[i]? = some x → i < len ∧ x = Y i := by
      intro i x hx
      have hi : i < len := by
        have := (List.getElem?_eq_some_iff.1 hx).1
        simpa using this
      refine ⟨hi, ?_⟩
      rw [List.getElem?_map, List.getElem?_range hi] at hx
      exact (Option.some.inj hx).symm
    have hok : ∀ y ∈ (List.range len).map Y, ok y := by
      intro y hy
      obtain ⟨i, hi, rfl⟩ := List.mem_map.1 hy
      exact (hY i (List.mem_range.1 hi)).1
    refine ⟨(List.range len).map Y, ⟨by simp; omega, hok⟩, .cons ?_ .nil⟩
    by_cases hz : len = 0
    · subst hz
      exact .sl ⟨0, 0, none⟩ (fun _ _ => undef) (by simp) (by omega) (by omega) (fun h => absurd h (by omega)) rfl (fun h => absurd h (by omega)) (fun h => absurd h (by omega)) (fun x hx => hsz x (hok x hx)) (fun i j h => absurd h (by omega)) (fun i x j c h => by simp at h)
    · -- the address is a plain one
      have hcell : ∀ i j, i < len → j < P.cellsOf e → ∃ v, W.cell? (a.add (i * P.cellsOf e + j)) = some v ∧ ∀ c, (mk (Y i))[j]? = some c → VR W (fun _ => False) [] c v := by
        intro i j hi hj
        obtain ⟨_, cs', h1, h2⟩ := hY i hi
        obtain ⟨_, h3, h4⟩ := World.cells?_some h1
        have h5 := h4 j hj
        rw [List.getElem?_eq_getElem (by omega)] at h5
        have e1 : (a.add (i * P.cellsOf e)).add j = a.add (i * P.cellsOf e + j) := by
          obtain ⟨bb, oo, ss⟩ := a
          unfold Addr.add
          repeat' split
          all_goals simp_all
          all_goals omega
        rw [e1] at h5
        exact ⟨_, h5, fun c hc => h2.2 j c _ hc (by rw [List.getElem?_eq_getElem])⟩
      have hspot : a.spot = none := by
        obtain ⟨v, hv, _⟩ := hcell 0 0 (by omega) h0
        unfold World.cell? at hv
        split at hv
        · split at hv
          · cases hv
          · rename_i hs
            obtain ⟨bb, oo, ss⟩ := a
            cases ss with
            | none => rfl
            | some s => simp [Addr.add] at hs
        · cases hv
      have hadd : ∀ k, a.add k = ⟨a.block, a.off + k, none⟩ := by
        intro k
        obtain ⟨bb, oo, ss⟩ := a
        simp only at hspot
        subst hspot
        exact addr_add bb oo k
      have hblk : a.block < W.heap.size := by
        obtain ⟨v, hv, _⟩ := hcell 0 0 (by omega) h0
        rw [hadd] at hv
        exact cell_lt (a := ⟨a.block, _, none⟩) hv
      refine .sl a (fun i j => if hi : i < len ∧ j < P.cellsOf e then (hcell i j hi.1 hi.2).choose else undef) (by simp) (by unfold maxLen at hm; omega) hl (fun _ => rfl) hspot (fun _ h => h) (fun _ => hblk) (fun x hx => hsz x (hok x hx)) (fun i j hi hj => ?_) (fun i x j c hx hc => ?_)
      · rw [dif_pos ⟨hi, hj⟩]
        exact (congrArg W.cell? (hadd (i * P.cellsOf e + j))).symm.trans (hcell i j hi hj).choose_spec.1
      · obtain ⟨hi, rfl⟩ := hxs i x hx
        have hj : j < P.cellsOf e := by
          have := (List.getElem?_eq_some_iff.1 hc).1
          rwa [hsz _ (hY i hi).1] at this
        rw [dif_pos ⟨hi, hj⟩]
        exact (hcell i j hi hj).choose_spec.2 c hc

/-- A parameter that is a struct, by value. -/
theorem Cod.val_agg {t : TypeId} {fs : Array Field} {α : Type} {mk : α → List AV} {ok : α → Prop} (h : Cod P t mk ok) (ht : P.underlying t = some (.struct fs)) {W : World} {r : Reach} {b0 base : Nat} {sp : Nat → Bool} {held : Bool} {v : Value} {d : DataW H} {ps : List MemPlace}
    (hv : Value.okWide P W r b0 t v) (hd : DataW.Trod enc P W base sp held t v d ps) : ∃ a, ok a ∧ VR W (fun _ => False) [] (.agg (mk a)) v := by
  obtain ⟨cs, rfl, _⟩ := okWide_struct ht hv
  obtain ⟨fuel, hf⟩ := hd
  obtain ⟨a, h1, h2⟩ := h W H enc base sp held fuel _ _ hf
  obtain ⟨l⟩ := cs
  exact ⟨a, h1, h2.agg⟩
theorem Cod.val_slice {t e : TypeId} {α : Type} {mk : α → AV} {ok : α → Prop} (h : Cod P t (fun a => [mk a]) ok) (ht : P.underlying t = some (.slice e)) {W : World} {r : Reach} {b0 base : Nat} {sp : Nat → Bool} {held : Bool} {v : Value} {d : DataW H} {ps : List MemPlace}
    (hv : Value.okWide P W r b0 t v) (hd : DataW.Trod enc P W base sp held t v d ps) : ∃ a, ok a ∧ VR W (fun _ => False) [] (mk a) v := by
  obtain ⟨a0, len, cap, rfl⟩ := okWide_slice ht hv
  obtain ⟨fuel, hf⟩ := hd
  obtain ⟨a, h1, h2⟩ := h W H enc base sp held fuel _ _ hf
  exact ⟨a, h1, h2.2 0 _ _ rfl rfl⟩
end
end Go.Mir
