/- append, make, slice expressions, min and max do what 'opEff' says. No condition. -/
import Derived.Test.YtndjmkglbcbddaaDoorMirK2
import Derived.Test.YtndjmkglbcbddaaDoorMirF2
import Derived.Laws.Small
import Derived.Laws.MakeOwn
import Derived.Laws.Slices
set_option linter.unusedVariables false
namespace Go.Mir

section
variable {P : Program} {T : Nat → TI} {g : Option Bool} {w : World} {X : Nat → Prop} {m : Nat} {E : List Slot} {hp : List Obj} {a : Act} {ev : Operand → AV}

theorem cont_sound (hg : g = none ∨ g = some true) (hr : HR w X m E hp) {ti : TI} {x : AV} {v : Value} {K : Cont → Prop} (h : contE ti x hp g K) (hx : VR w (SX X E hp) E x v) :
    ∃ c, K c ∧ Reads w (SX X E hp) v c.enc c.sz c.ys ∧ ∀ y ∈ c.ys, (c.enc y).length = c.sz := by
  unfold contE at h
  split at h
  · obtain ⟨h1, h2⟩ := reads_sl hx
    exact ⟨_, h, h1, h2⟩
  · cases hx
    exact ⟨_, h, reads_nil, fun y hy => by cases hy⟩
  · split at h
    · rename_i hj
      obtain ⟨h1, h2⟩ := h
      have h1 := ob_true hg h1
      subst h1
      obtain ⟨h3, h4⟩ := reads_row hr hj hx
      exact ⟨_, h2, h3, h4⟩
    · exact h.elim
  · exact h.elim

theorem reads_as {S : Nat → Prop} {y : Value} {α β : Type} {enc : α → List AV} {enc' : β → List AV} {sz : Nat} {ys : List α} {zs : List β} (h : Reads w S y enc sz ys) (he : zs.map enc' = ys.map enc) : Reads w S y enc' sz zs := by
  obtain ⟨a, cap, news, e, hl, ha, hc⟩ := h
  have hlen : zs.length = ys.length := by simpa using congrArg List.length he
  refine ⟨a, cap, news, by rw [hlen]; exact e, by rw [hlen]; exact hl, by rw [hlen]; exact ha, fun i x k c h1 h2 => ?_⟩
  have h3 : (zs.map enc')[i]? = some (enc' x) := by rw [List.getElem?_map, h1]; rfl
  rw [he, List.getElem?_map, Option.map_eq_some_iff] at h3
  obtain ⟨y', h4, h5⟩ := h3
  exact hc i y' k c h4 (by rw [h5]; exact h2)

theorem join_sound {ti : TI} {sz n0 : Nat} {c : Cont} (h : joinOk ti sz n0 c) {S : Nat → Prop} {v : Value} (hv : Reads w S v c.enc c.sz c.ys) (hl : ∀ y ∈ c.ys, (c.enc y).length = c.sz) {β : Type} {e' : β → List AV} {zs : List β} (hz : zs.map e' = c.ys.map c.enc) :
    sz = ti.size ∧ 0 < sz ∧ Reads w S v e' sz zs ∧ (∀ y ∈ zs, (e' y).length = sz ∧ ones (e' y) = true) ∧ n0 + zs.length ≤ 9223372036854775807 ∧ (n0 + zs.length) * ti.bytes ≤ 140737488355328 := by
  obtain ⟨h1, h3, h4⟩ := h
  simp only [Bool.and_eq_true] at h1
  have e1 := Nat.eq_of_beq_eq_true h1.1.1
  have e2 := Nat.eq_of_beq_eq_true h1.1.2
  have hlen : zs.length = c.ys.length := by simpa using congrArg List.length hz
  refine ⟨e1, Nat.le_of_ble_eq_true h1.2, ?_, fun y hy => ?_, by rw [hlen]; exact h4.1, by rw [hlen]; exact h4.2⟩
  · rw [← e2]
    exact reads_as hv hz
  · have : e' y ∈ zs.map e' := List.mem_map.2 ⟨y, hy, rfl⟩
    rw [hz] at this
    obtain ⟨y', hy', e⟩ := List.mem_map.1 this
    rw [← e]
    exact ⟨by rw [hl y' hy', e2], h3 y' hy'⟩

theorem append_nils (hT : TOk P T) (hr : HR w X m E hp) {n : Nat} (hn : n < hp.length) (hph : hp[n]? = some .dead) (hE : E[n]? = some Slot.none) {t e : Nat} (ht : (T t).k = .slice e) (hke : (T e).k ≠ .other) {α : Type} {enc : α → List AV} {sz : Nat} (d : α) {ys : List α} (hsz : sz = (T e).size) (h0 : 0 < sz)
    {a : Option Addr} {y : Value} (hy : Reads w (SX X E hp) y enc sz ys) (hys : ∀ y ∈ ys, (enc y).length = sz ∧ ones (enc y) = true)
    (b1 : ys.length ≤ 9223372036854775807) (b2 : ys.length * (T e).bytes ≤ 140737488355328) (ty : TypeId) :
    ∃ v' w', (Builtin.append_ #[t, t] ty #[.slice a 0 0, y]).run P w = .ok v' w' ∧ After w X m E hp (.rowf n 1) [(n, .row α enc sz d ys 1)] v' w' := by
  have hnE : n < E.length := by rw [hr.len]; exact hn
  have hown : ∀ b, own (E.set n ⟨.row, none, 0, 0, sz, 0⟩) (hp.set n (.row α enc sz d [] 0)) b → own E hp b := by
    rintro b ⟨i, o, si, h1, h2, h3, h4⟩
    by_cases e : n = i
    · subst e
      rw [List.getElem?_set_self hnE] at h3
      cases h3
      cases h4
    · rw [List.getElem?_set_ne e] at h1 h3
      exact ⟨i, o, si, h1, h2, h3, h4⟩
  obtain ⟨H, _⟩ := hr.turn n hn ⟨.row, none, 0, 0, sz, 0⟩ (.row α enc sz d [] 0) (FrameW.refl _ _) (ext_set hE) (fun b _ hb => (by cases hb))
    ⟨rfl, rfl, rfl, rfl, Nat.le_refl _, fun x hx => (by cases hx), fun _ => rfl, Nat.zero_le _, fun b hb => (by cases hb)⟩
  have hv : VR w (SX X (E.set n ⟨.row, none, 0, 0, sz, 0⟩) (hp.set n (.row α enc sz d [] 0))) (E.set n ⟨.row, none, 0, 0, sz, 0⟩) (.rowf n 0) (.slice a 0 0) :=
    .rowf (by rw [List.getElem?_set_self hnE]) rfl (Nat.le_refl _) fun _ => ⟨rfl, rfl, fun b hb => (by cases hb), fun _ => ⟨rfl, rfl⟩⟩
  have hy' : Reads w (SX X (E.set n ⟨.row, none, 0, 0, sz, 0⟩) (hp.set n (.row α enc sz d [] 0))) y enc sz ys := by
    obtain ⟨a, cap, news, e, hl, ha, hc⟩ := hy
    refine ⟨a, cap, news, e, hl, ha, fun i x k c h1 h2 => ?_⟩
    obtain ⟨u, hu, hv⟩ := hc i x k c h1 h2
    exact ⟨u, hu, hv.mono (FrameW.refl _ _) (fun b _ h => h.imp id (hown b)) (.refl _)⟩
  obtain ⟨v', w', hrun, E', he, hh, hf, ho, hvv, hj⟩ := append_row hT H ht hke (List.getElem?_set_self hn) hsz h0 hv hy' hys (by simpa using b1) (by simpa using b2) ty
  refine ⟨v', w', hrun, E', (ext_set hE).trans he, ?_, hf.mono fun b _ h => hown b h, fun b hb h => ?_, ?_, fun j hj' => ?_⟩
  · simpa [updl] using hh
  · exact hown b (ho b hb (by simpa [updl] using h))
  · simpa [updl] using hvv
  · rw [hj j (fun p hp => hj' (n, .row α enc sz d ys 1) (by simp) |> fun h => by
      have := List.mem_singleton.1 hp
      rw [this]
      exact h)]
    have : n ≠ j := hj' (n, .row α enc sz d ys 1) (by simp)
    rw [List.getElem?_set_ne this]

/-- A place that is dead stays so. -/
theorem After.dead {j n : Nat} {o : Obj} {val : AV} {v : Value} {w' : World} (h : After w X m E hp val [(j, o)] v w') (hn : hp[n]? = some .dead) (hne : j ≠ n) : After w X m E hp val [(j, o), (n, .dead)] v w' := by
  obtain ⟨E', he, hh, hf, ho, hv, hrest⟩ := h
  have e : updl hp [(j, o), (n, Obj.dead)] = updl hp [(j, o)] := by
    simp only [updl, List.foldl_cons, List.foldl_nil]
    apply List.ext_getElem?
    intro i
    by_cases hi : n = i
    · subst hi
      have hl := (List.getElem?_eq_some_iff.1 hn).1
      rw [List.getElem?_set_self (by simpa using hl), List.getElem?_set_ne hne, hn]
    · rw [List.getElem?_set_ne hi]
  refine ⟨E', he, by rw [e]; exact hh, hf, fun b hb h => ho b hb (by rw [e] at h; exact h), by rw [e]; exact hv, fun i hi => hrest i fun p hp' => hi p (by
    rcases List.mem_singleton.1 hp' with rfl
    exact List.mem_cons_self)⟩
theorem append_run (hT : TOk P T) (hg : g = none ∨ g = some true) (hr : HR w X m E hp) {n : Nat} {t e : Nat} (ht : (T t).k = .slice e) (hke : (T e).k ≠ .other) {s x : AV} {vs vx : Value} {K : AV → List (Nat × Obj) → List Nat → Prop}
    (h : appendE (T e) s x hp n g K) (hph : ∀ v wr rd, K v wr rd → (∀ o, (n, o) ∈ wr → n < hp.length)) (hpl : n < hp.length → hp[n]? = some .dead ∧ E[n]? = some Slot.none) (hs : VR w (SX X E hp) E s vs) (hx : VR w (SX X E hp) E x vx) (ty : TypeId) :
    ∃ val wr rd, K val wr rd ∧ ∃ v' w', (Builtin.append_ #[t, t] ty #[vs, vx]).run P w = .ok v' w' ∧ After w X m E hp val wr v' w' := by
  unfold appendE at h
  obtain ⟨c, h, hc, hcl⟩ := cont_sound hg hr h hx
  split at h
  · obtain ⟨hj, β, e', d', zs, hz, hk⟩ := h
    obtain ⟨e1, e2, h1, h2, h3, h4⟩ := join_sound hj hc hcl hz
    cases hs
    have hn := hph _ _ _ hk _ (List.mem_singleton.2 rfl)
    obtain ⟨p1, p2⟩ := hpl hn
    exact ⟨_, _, _, hk, append_nils hT hr hn p1 p2 ht hke d' e1 e2 h1 h2 (by simpa using h3) (by simpa using h4) ty⟩
  · split at h
    · rename_i j ver _ _ α enc sz d xs ver' hj
      obtain ⟨rfl, hjn, β, e', d', zs, hz, hk⟩ := h
      have hlz : zs.length = xs.length + c.ys.length := by simpa using congrArg List.length hz
      have hz1 : (zs.take xs.length).map e' = xs.map enc := by rw [List.map_take, hz, List.take_left' (by simp)]
      have hz2 : (zs.drop xs.length).map e' = c.ys.map c.enc := by rw [List.map_drop, hz, List.drop_left' (by simp)]
      have hsame : Same (.row α enc sz d xs ver) (.row β e' sz d' (zs.take xs.length) ver) := .row hz1
      have hjl := (List.getElem?_eq_some_iff.1 hj).1
      obtain ⟨e1, e2, h1, h2, h3, h4⟩ := join_sound hjn hc hcl hz2
      have hl1 : (zs.take xs.length).length = xs.length := by rw [List.length_take]; omega
      replace h3 : (zs.take xs.length).length + (zs.drop xs.length).length ≤ 9223372036854775807 := by rw [hl1]; exact h3
      replace h4 : ((zs.take xs.length).length + (zs.drop xs.length).length) * (T e).bytes ≤ 140737488355328 := by rw [hl1]; exact h4
      rw [← sx_same hj hsame] at hs h1
      obtain ⟨v', w', hrun, ha⟩ := append_row hT (hr.same hj hsame) ht hke (List.getElem?_set_self hjl) e1 e2 hs h1 h2 h3 h4 ty
      have hn := hph _ _ _ hk _ (List.mem_cons_of_mem _ (List.mem_singleton.2 rfl))
      obtain ⟨p1, _⟩ := hpl hn
      exact ⟨_, _, _, hk, v', w', hrun, (ha.rewrite hj hsame (.row (by rw [List.take_append_drop]))).dead p1 (fun e => by rw [e, p1] at hj; cases hj)⟩
    · exact h.elim
  · exact h.elim

theorem opt_sound (hg : g = none ∨ g = some true) (hev : ∀ x, VR w (SX X E hp) E (ev x) (a.eval x)) {d : Int} {x : Option Operand} {K : Int → Prop} (h : optE ev g d x K) :
    ∃ i, K i ∧ ((x = none ∧ i = d) ∨ ∃ k, x.map a.eval = some (.int k i)) := by
  unfold optE at h
  split at h
  · exact ⟨_, h, .inl ⟨rfl, rfl⟩⟩
  · rename_i x
    obtain ⟨c, h, hc⟩ := strip_spec hg h (hev x)
    split at h
    · rename_i k i
      cases hc' : a.eval x <;> rw [hc'] at hc <;> cases hc
      exact ⟨_, h, .inr ⟨k, by simp [hc']⟩⟩
    · exact h.elim

theorem min_run {S : Nat → Prop} {mx : Bool} {x y : AV} {vx vy : Value} {K : AV → Prop} (h : minE mx x y K) (hx : VR w S E x vx) (hy : VR w S E y vy) (ts : Array TypeId) (t : TypeId) :
    ∃ val v, K val ∧ ((bif mx then Builtin.max_ ts t #[vx, vy] else Builtin.min_ ts t #[vx, vy]) : Sem Value).run P w = .ok v w ∧ VR w S E val v := by
  unfold minE at h
  split at h
  · split at h
    · cases hx with | int => cases hy with | int =>
      split at h
      · exact ⟨_, _, h, run_max_int2 w ts t _ _ _ _, .int⟩
      · exact ⟨_, _, h, run_min_int2 w ts t _ _ _ _, .int⟩
    · exact h.elim
  · exact h.elim

theorem make_run (hT : TOk P T) (hg : g = none ∨ g = some true) (hr : HR w X m E hp) {n : Nat} {t e : Nat} (ht : (T t).k = .slice e) (hke : (T e).k ≠ .other) {l c : AV} {vl vc : Value} {K : AV → List (Nat × Obj) → List Nat → Prop}
    (h : makeE (T e) l c n g K) (hph : ∀ v wr rd, K v wr rd → (∀ o, (n, o) ∈ wr → n < hp.length)) (hpl : n < hp.length → hp[n]? = some .dead ∧ E[n]? = some Slot.none) (hl : VR w (SX X E hp) E l vl) (hc : VR w (SX X E hp) E c vc) :
    ∃ val wr rd, K val wr rd ∧ ∃ v' w', (Instr.makeSlice t vl vc).run P w = .ok v' w' ∧ After w X m E hp val wr v' w' := by
  unfold makeE at h
  split at h
  · split at h
    · rename_i x1 l x2 x3 c
      obtain ⟨hb, hz0, β, e', d', zs, hz, hk⟩ := h
      have hb := ob_true hg hb
      cases hl with | int => cases hc with | int =>
      have hn := hph _ _ _ hk _ (List.mem_singleton.2 rfl)
      obtain ⟨p1, p2⟩ := hpl hn
      obtain ⟨i, d, zz, hi, hu, hkd, hs, hby, hzz, hzo⟩ := hT e hke
      obtain ⟨z', hz1, hzs, hzv, _⟩ := zero_run (w := w) hT hke
      have hze : z' = zz := by
        rw [run_zeroValue hi hzz] at hz1
        cases hz1
        rfl
      subst hze
      have hbb : (i.bytes : Int) * c ≤ 281474976710656 := by rw [hby, Int.mul_comm]; exact hb.2.2.1
      have hrun := run_make (P := P) w t e i z' (slice_desc hT ht) hi hzz x1 x3 l c hb.1 hb.2.1 hbb hb.2.2.2
      have hzl : (T e).zero.length = (T e).size := by rw [(hzv w (fun _ => False) []).1]; simpa using hzs
      refine ⟨_, _, _, hk, _, _, hrun, ?_⟩
      have hlc : l.toNat ≤ c.toNat := by omega
      have hmc : (madeCells z'.cells (c.toNat * i.size)).toList.length = c.toNat * (T e).size := by
        rw [Array.length_toList, size_madeCells, hs]
      have hzs' : ∀ x ∈ zs, e' x = (T e).zero := fun x hx => List.eq_of_mem_replicate (by rw [← hz]; exact List.mem_map.2 ⟨x, hx, rfl⟩)
      have hlz : zs.length = l.toNat := by simpa using congrArg List.length hz
      have := new_row (w := w) hr hn p1 p2 d' (enc := e') (sz := (T e).size) (xs := zs) (vs := (madeCells z'.cells (c.toNat * i.size)).toList) (cap := c.toNat) e (by rw [hlz]; exact hlc) (by rw [hlz]; omega)
        (fun x hx => by rw [hzs' x hx, hzl]) hmc (fun i' x j cc h1 h2 => by
          have hi' : i' < l.toNat := by rw [← hlz]; exact (List.getElem?_eq_some_iff.1 h1).1
          rw [hzs' x (List.mem_of_getElem? h1)] at h2
          have hj : j < (T e).size := by rw [← hzl]; exact (List.getElem?_eq_some_iff.1 h2).1
          have hmul := Nat.mul_le_mul_right (T e).size (show i' + 1 ≤ c.toNat by omega)
          rw [Nat.succ_mul] at hmul
          have hsz : z'.cells.size = (T e).size := hzs
          have hjz : j < z'.cells.toList.length := by simpa [hsz] using hj
          refine ⟨z'.cells.toList[j], ?_, ((hzv w (SX X E hp) []).2 j cc _ h2 (by simp))⟩
          have hm : (i' * (T e).size + j) % z'.cells.size = j := by rw [hsz, Nat.mul_comm, Nat.mul_add_mod, Nat.mod_eq_of_lt hj]
          have hlt : i' * (T e).size + j < c.toNat * i.size := by rw [hs]; omega
          have e1 : (Array.range (c.toNat * i.size))[i' * (T e).size + j]? = some (i' * (T e).size + j) := by
            rw [Array.getElem?_eq_getElem (by simpa using hlt)]
            simp
          rw [Array.getElem?_toList, madeCells, Array.getElem?_map, e1, Option.map_some, hm, getElem!_pos _ _ (by simpa using hjz)]
          simp
          )
      rw [hlz] at this
      simpa using this
    · exact h.elim
  · exact h.elim

theorem bounds_run {isSlice : Bool} {len cap : Nat} {lo hi : Option Value} {l h : Int} (hlo : (lo = none ∧ l = 0) ∨ ∃ k, lo = some (.int k l)) (hhi : (hi = none ∧ h = len) ∨ ∃ k, hi = some (.int k h)) (h0 : 0 ≤ l) (h1 : l ≤ h) (h2 : h ≤ cap) :
    (Instr.sliceBounds isSlice len cap lo hi none).run P w = .ok (l.toNat, h.toNat, cap) w := by
  have eh : ((h.toNat : Nat) : Int) = h := Int.toNat_of_nonneg (by omega)
  have h3 : 0 ≤ h := by omega
  rcases hlo with ⟨rfl, rfl⟩ | ⟨k, rfl⟩ <;> rcases hhi with ⟨rfl, rfl⟩ | ⟨k', rfl⟩ <;> simp [Instr.sliceBounds, run_sliceBound, *]
theorem bounds_max {isSlice : Bool} {len cap : Nat} {lo hi mx : Option Value} {l h m : Int} (hlo : (lo = none ∧ l = 0) ∨ ∃ k, lo = some (.int k l)) (hhi : ∃ k, hi = some (.int k h)) (hmx : ∃ k, mx = some (.int k m)) (h0 : 0 ≤ l) (h1 : l ≤ h) (h2 : h ≤ m) (h3 : m ≤ cap) :
    (Instr.sliceBounds isSlice len cap lo hi mx).run P w = .ok (l.toNat, h.toNat, m.toNat) w := by
  have eh : ((h.toNat : Nat) : Int) = h := Int.toNat_of_nonneg (by omega)
  have em : ((m.toNat : Nat) : Int) = m := Int.toNat_of_nonneg (by omega)
  have h4 : 0 ≤ h := by omega
  have h5 : 0 ≤ m := by omega
  obtain ⟨k', rfl⟩ := hhi
  obtain ⟨k2, rfl⟩ := hmx
  rcases hlo with ⟨rfl, rfl⟩ | ⟨k, rfl⟩ <;> simp [Instr.sliceBounds, run_sliceBound, *]

theorem sl_cut {S : Nat → Prop} {α : Type} {enc : α → List AV} {sz : Nat} {d : α} {xs : List α} {a : Option Addr} {n cap l h cap' : Nat} (hv : VR w S E (.sl α enc sz d xs) (.slice a n cap)) (h1 : l ≤ h) (h2 : h ≤ xs.length) (hc' : h - l ≤ cap') {a' : Option Addr}
    (ha' : l < h → a' = a.map (·.add (l * sz))) : VR w S E (.sl α enc sz d ((xs.drop l).take (h - l))) (.slice a' (h - l) cap') := by
  cases hv with
  | sl ad f hn hm hcp ha hsp hs hb hsz hc hv =>
    have hlen : ((xs.drop l).take (h - l)).length = h - l := by simp; omega
    have hat : ∀ (i : Nat) x, ((xs.drop l).take (h - l))[i]? = some x → i < h - l ∧ xs[l + i]? = some x := by
      intro i x hx
      rw [List.getElem?_take] at hx
      split at hx
      · rename_i hi
        rw [List.getElem?_drop] at hx
        exact ⟨hi, hx⟩
      · cases hx
    refine .sl ⟨ad.block, ad.off + l * sz, none⟩ (fun i j => f (l + i) j) hlen.symm (by omega) hc' (fun h0 => ?_) rfl (fun h0 => hs (by omega)) (fun h0 => hb (by omega)) (fun x hx => hsz x (List.mem_of_mem_drop (List.mem_of_mem_take hx))) (fun i j hi hj => ?_) (fun i x j c hx hcx => hv (l + i) x j c (hat i x hx).2 hcx)
    · rw [ha' (by omega), ha (by omega)]
      obtain ⟨b, o, sp⟩ := ad
      simp only at hsp
      subst hsp
      simp only [Option.map_some, addr_add]
    · have := hc (l + i) j (by omega) hj
      rw [show ad.off + l * sz + (i * sz + j) = ad.off + ((l + i) * sz + j) by rw [Nat.add_mul]; omega]
      exact this

theorem slice_run (hT : TOk P T) (hg : g = none ∨ g = some true) (hr : HR w X m E hp) (hev : ∀ x, VR w (SX X E hp) E (ev x) (a.eval x)) {t : Nat} {x : AV} {vx : Value} {lo hi mx : Option Operand} {K : AV → List Nat → Prop}
    (h : sliceE T t x lo hi mx ev hp g K) (hx : VR w (SX X E hp) E x vx) :
    ∃ val rd, K val rd ∧ ∃ v, (Instr.sliceAt t vx (lo.map a.eval) (hi.map a.eval) (mx.map a.eval)).run P w = .ok v w ∧ VR w (SX X E hp) E val v := by
  unfold sliceE at h
  split at h
  · rename_i e
    obtain ⟨d, hu, hk⟩ := hT.desc (t := t) (by rw [e]; simp)
    rw [e] at hk
    cases d <;> first | exact hk.elim | skip
    split at h
    · rename_i s
      split at h
      · obtain ⟨l, h, hl⟩ := opt_sound hg hev h
        obtain ⟨r, h, hh⟩ := opt_sound hg hev h
        obtain ⟨hb, hk⟩ := h
        have hb := ob_true hg hb
        cases hx
        refine ⟨_, _, hk, _, ?_, .str⟩
        have hbr := bounds_run (P := P) (w := w) (isSlice := false) (len := s.size) (cap := s.size) (lo := lo.map a.eval) (hi := hi.map a.eval) (l := l) (h := r) (hl.imp (fun ⟨h1, h2⟩ => ⟨by rw [h1]; rfl, h2⟩) id) (hh.imp (fun ⟨h1, h2⟩ => ⟨by rw [h1]; rfl, h2⟩) id) hb.1 hb.2.1 hb.2.2
        rw [run_sliceAt_string w t _ _ _ _ hu]
        simp [Instr.slice, run_underlying hu, hbr]
      · exact h.elim
    · exact h.elim
  · rename_i na e het
    obtain ⟨d, hu, hk⟩ := hT.desc (t := t) (by rw [het]; simp)
    rw [het] at hk
    cases d <;> first | exact hk.elim | skip
    simp only [KOk] at hk
    rw [hk.1, hk.2] at hu
    clear hk
    obtain ⟨hke, h⟩ := known_spec h
    obtain ⟨ei, ed, ez, hei, heu, hek, hes, heb, hez, heo⟩ := hT e hke
    have run : ∀ (a0 : Addr) (lo hi mx : Option Value) (l h mm : Nat), (Instr.sliceBounds false na na lo hi mx).run P w = .ok (l, h, mm) w →
        (Instr.sliceAt t (.pointer (some a0)) lo hi mx).run P w = .ok (.slice (some (if mm = l then a0 else a0.add (l * (T e).size))) (h - l) (mm - l)) w := by
      intro a0 lo hi mx l h mm hb
      simp [Instr.sliceAt, Instr.sureAddr, run_underlying hu, hb, Go.Mir.run_sizeOf hei, hes]
    split at h
    · rename_i j of0
      obtain ⟨l, h, hl⟩ := opt_sound hg hev h
      obtain ⟨r, h, hh⟩ := opt_sound hg hev h
      cases hx with
      | @loc _ _ _ b s hE hkk hb =>
      split at h
      · obtain ⟨hbd, hk⟩ := h
        have hbd := ob_true hg hbd
        have hbr := bounds_run (P := P) (w := w) (isSlice := false) (len := na) (cap := na) (lo := lo.map a.eval) (hi := hi.map a.eval) (l := l) (h := r) (hl.imp (fun ⟨h1, h2⟩ => ⟨by rw [h1]; rfl, h2⟩) id) (hh.imp (fun ⟨h1, h2⟩ => ⟨by rw [h1]; rfl, h2⟩) id) hbd.1 hbd.2.1 hbd.2.2
        split at hk
        · rename_i hml
          have hml := of_decide_eq_true hml
          refine ⟨_, _, hk, _, run _ _ _ _ _ _ _ hbr, ?_⟩
          rw [show r.toNat - l.toNat = 0 by omega, show na - l.toNat = 0 by omega]
          exact .nils
        · rename_i hml
          have hml := of_decide_eq_false hml
          refine ⟨_, _, hk, _, run _ _ _ _ _ _ _ hbr, ?_⟩
          rw [if_neg (by omega), addr_add]
          exact .csl hE hkk hb
      · obtain ⟨his, h⟩ := h
        obtain ⟨mm, h, hmm⟩ := opt_sound hg hev h
        obtain ⟨hbd, hk⟩ := h
        have hbd := ob_true hg hbd
        have hh' : ∃ k, hi.map a.eval = some (.int k r) := by
          rcases hh with ⟨h1, _⟩ | h1
          · rw [h1] at his; cases his
          · exact h1
        have hm' : ∃ k, mx.map a.eval = some (.int k mm) := by
          rcases hmm with ⟨h1, _⟩ | h1
          · exact absurd h1 ‹_›
          · exact h1
        have hbr := bounds_max (P := P) (w := w) (isSlice := false) (len := na) (cap := na) (lo := lo.map a.eval) (hi := hi.map a.eval) (l := l) (h := r) (hl.imp (fun ⟨h1, h2⟩ => ⟨by rw [h1]; rfl, h2⟩) id) hh' hm' hbd.1 hbd.2.1 hbd.2.2.1 (by omega)
        split at hk
        · rename_i hml
          have hml := of_decide_eq_true hml
          refine ⟨_, _, hk, _, run _ _ _ _ _ _ _ hbr, ?_⟩
          rw [show r.toNat - l.toNat = 0 by omega, show mm.toNat - l.toNat = 0 by omega]
          exact .nils
        · rename_i hml
          have hml := of_decide_eq_false hml
          refine ⟨_, _, hk, _, run _ _ _ _ _ _ _ hbr, ?_⟩
          rw [if_neg (by omega), addr_add]
          exact .csl hE hkk hb
    · exact h.elim
  · rename_i e het
    have hu := slice_desc hT het
    obtain ⟨hke, h⟩ := known_spec h
    obtain ⟨ei, ed, ez, hei, heu, hek, hes, heb, hez, heo⟩ := hT e hke
    have helem : P.elem t = e := by simp [Program.elem, hu]
    have hu' : P.underlying t = some (.slice (P.elem t)) := by rw [helem]; exact hu
    have run : ∀ (a0 : Option Addr) (n cap : Nat) (lo hi mx : Option Value) (l h mm : Nat), (Instr.sliceBounds true n cap lo hi mx).run P w = .ok (l, h, mm) w →
        (Instr.sliceAt t (.slice a0 n cap) lo hi mx).run P w = .ok (.slice (if mm = l then a0 else a0.map (·.add (l * (T e).size))) (h - l) (mm - l)) w := by
      intro a0 n cap lo hi mx l h mm hb
      rw [run_sliceAt_slice w t _ _ _ _ hu', run_slice_any w t a0 n cap hu', hb]
      simp only [Result.andThen_ok, helem, Go.Mir.run_sizeOf hei, sliced, hes]
    split at h
    · rename_i α enc sz d xs
      obtain ⟨hsz, h⟩ := h
      have hsz := Nat.eq_of_beq_eq_true hsz
      obtain ⟨l, h, hl⟩ := opt_sound hg hev h
      obtain ⟨r, h, hh⟩ := opt_sound hg hev h
      have hx0 := hx
      cases hx with
      | @sl _ _ _ _ _ _ a0 n cap ad f hn hm hcp ha hsp hs hb0 hszx hc hv =>
      split at h
      · obtain ⟨hb, hk⟩ := h
        have hb := ob_true hg hb
        have hbr := bounds_run (P := P) (w := w) (isSlice := true) (len := n) (cap := cap) (lo := lo.map a.eval) (hi := hi.map a.eval) (l := l) (h := r) (hl.imp (fun ⟨h1, h2⟩ => ⟨by rw [h1]; rfl, h2⟩) id) (hh.imp (fun ⟨h1, h2⟩ => ⟨by rw [h1]; rfl, by rw [h2, hn]⟩) id) hb.1 hb.2.1 (by omega)
        refine ⟨_, _, hk, _, run a0 n cap _ _ _ _ _ _ hbr, ?_⟩
        refine sl_cut hx0 (by omega) (by omega) (by omega) fun hlt => ?_
        rw [if_neg (by omega), hsz]
      · rename_i mxo
        obtain ⟨his, h⟩ := h
        obtain ⟨mm, h, hmm⟩ := opt_sound hg hev h
        obtain ⟨hb, hk⟩ := h
        have hb := ob_true hg hb
        have hh' : ∃ k, hi.map a.eval = some (.int k r) := by
          rcases hh with ⟨h1, _⟩ | h1
          · rw [h1] at his; cases his
          · exact h1
        have hm' : ∃ k, mx.map a.eval = some (.int k mm) := by
          rcases hmm with ⟨h1, _⟩ | h1
          · exact absurd h1 ‹_›
          · exact h1
        have hbr := bounds_max (P := P) (w := w) (isSlice := true) (len := n) (cap := cap) (lo := lo.map a.eval) (hi := hi.map a.eval) (l := l) (h := r) (hl.imp (fun ⟨h1, h2⟩ => ⟨by rw [h1]; rfl, h2⟩) id) hh' hm' hb.1 hb.2.1 hb.2.2.1 (by omega)
        split at hk
        · rename_i hml
          have hml := of_decide_eq_true hml
          refine ⟨_, _, hk, _, run a0 n cap _ _ _ _ _ _ hbr, ?_⟩
          rw [show r.toNat - l.toNat = 0 by omega, show mm.toNat - l.toNat = 0 by omega]
          exact .nils
        · refine ⟨_, _, hk, _, run a0 n cap _ _ _ _ _ _ hbr, ?_⟩
          refine sl_cut hx0 (by omega) (by omega) (by omega) fun hlt => ?_
          rw [if_neg (by omega), hsz]
    · obtain ⟨l, h, hl⟩ := opt_sound hg hev h
      obtain ⟨r, h, hh⟩ := opt_sound hg hev h
      cases hx with
      | @nils _ a0 =>
      split at h
      · obtain ⟨hb, hk⟩ := h
        have hb := ob_true hg hb
        have hbr := bounds_run (P := P) (w := w) (isSlice := true) (len := 0) (cap := 0) (lo := lo.map a.eval) (hi := hi.map a.eval) (l := l) (h := r) (hl.imp (fun ⟨h1, h2⟩ => ⟨by rw [h1]; rfl, h2⟩) id) (hh.imp (fun ⟨h1, h2⟩ => ⟨by rw [h1]; rfl, h2⟩) id) (by omega) (by omega) (by omega)
        refine ⟨_, _, hk, _, run a0 0 0 _ _ _ _ _ _ hbr, ?_⟩
        rw [show r.toNat - l.toNat = 0 by omega, show 0 - l.toNat = 0 by omega]
        exact .nils
      · obtain ⟨his, h⟩ := h
        obtain ⟨mm, h, hmm⟩ := opt_sound hg hev h
        obtain ⟨hb, hk⟩ := h
        have hb := ob_true hg hb
        have hh' : ∃ k, hi.map a.eval = some (.int k r) := by
          rcases hh with ⟨h1, _⟩ | h1
          · rw [h1] at his; cases his
          · exact h1
        have hm' : ∃ k, mx.map a.eval = some (.int k mm) := by
          rcases hmm with ⟨h1, _⟩ | h1
          · exact absurd h1 ‹_›
          · exact h1
        have hbr := bounds_max (P := P) (w := w) (isSlice := true) (len := 0) (cap := 0) (lo := lo.map a.eval) (hi := hi.map a.eval) (l := l) (h := r) (hl.imp (fun ⟨h1, h2⟩ => ⟨by rw [h1]; rfl, h2⟩) id) hh' hm' (by omega) (by omega) (by omega) (by omega)
        refine ⟨_, _, hk, _, run a0 0 0 _ _ _ _ _ _ hbr, ?_⟩
        rw [show r.toNat - l.toNat = 0 by omega, show mm.toNat - l.toNat = 0 by omega]
        exact .nils
    · split at h
      · rename_i xs ver' hj
        obtain ⟨l, h, hl⟩ := opt_sound hg hev h
        obtain ⟨r, h, hh⟩ := opt_sound hg hev h
        have hx0 := hx
        cases hx with
        | @rowf _ _ _ s a0 n cap hE hk' hle hq =>
        obtain ⟨k1, k2, k3, k4, k5, k6, k7, k8, k9⟩ := hr.obj _ _ s hj hE
        split at h
        · obtain ⟨hb, hk⟩ := h
          obtain ⟨rfl, rfl, rfl⟩ := ob_true hg hb
          obtain ⟨rfl, rfl, _⟩ := hq k2
          have hbr := bounds_run (P := P) (w := w) (isSlice := true) (len := s.len) (cap := s.cap) (lo := lo.map a.eval) (hi := hi.map a.eval) (l := 0) (hl.imp (fun ⟨h1, h2⟩ => ⟨by rw [h1]; rfl, h2⟩) id) (hh.imp (fun ⟨h1, h2⟩ => ⟨by rw [h1]; rfl, by rw [k4]⟩) id) (by omega) (by omega) (by omega)
          refine ⟨_, _, hk, _, run a0 s.len s.cap _ _ _ _ _ _ hbr, ?_⟩
          have e1 : a0.map (·.add ((0 : Int).toNat * (T e).size)) = a0 := by
            cases a0 with
            | none => rfl
            | some ad => simp [Addr.add]
          rw [e1, ite_self, Int.toNat_natCast, show xs.length - (0 : Int).toNat = s.len by rw [k4]; rfl]
          exact hx0
        · obtain ⟨his, h⟩ := h
          obtain ⟨mm, h, hmm⟩ := opt_sound hg hev h
          obtain ⟨hb, hk⟩ := h
          obtain ⟨rfl, hb⟩ := ob_true hg hb
          have hh' : ∃ k, hi.map a.eval = some (.int k r) := by
            rcases hh with ⟨h1, _⟩ | h1
            · rw [h1] at his; cases his
            · exact h1
          have hm' : ∃ k, mx.map a.eval = some (.int k mm) := by
            rcases hmm with ⟨h1, _⟩ | h1
            · exact absurd h1 ‹_›
            · exact h1
          have hbr := bounds_max (P := P) (w := w) (isSlice := true) (len := n) (cap := cap) (lo := lo.map a.eval) (hi := hi.map a.eval) (l := l) (h := r) (hl.imp (fun ⟨h1, h2⟩ => ⟨by rw [h1]; rfl, h2⟩) id) hh' hm' (by omega) (by omega) (by omega) (by omega)
          refine ⟨_, _, hk, _, run a0 n cap _ _ _ _ _ _ hbr, ?_⟩
          rw [show r.toNat - l.toNat = 0 by omega, show mm.toNat - l.toNat = 0 by omega]
          exact .nils
      · exact h.elim
    · exact h.elim
  · exact h.elim
end
end Go.Mir
