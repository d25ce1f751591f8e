/- append onto an owned row. No condition. -/
import Derived.Test.YtndjmkglbcbddaaDoorMirK
import Derived.Laws.AppendOwn
import Derived.ArgAppend
set_option linter.unusedVariables false
namespace Go.Mir

/-- A slice value reads as a list of content. -/
def Reads (w : World) (S : Nat → Prop) (y : Value) {α : Type} (enc : α → List AV) (sz : Nat) (ys : List α) : Prop :=
  ∃ (a : Option Addr) (cap : Nat) (news : List Value), y = .slice a ys.length cap ∧ news.length = ys.length * sz ∧
    (0 < ys.length → ∃ ad, a = some ad ∧ ∀ k u, news[k]? = some u → w.cell? (ad.add k) = some u) ∧
    ∀ (i : Nat) x (k : Nat) c, ys[i]? = some x → (enc x)[k]? = some c → ∃ u, news[i * sz + k]? = some u ∧ VR w S [] c u

section
variable {P : Program} {T : Nat → TI} {w : World} {X : Nat → Prop} {m : Nat} {E : List Slot} {hp : List Obj}

theorem reads_nil {S : Nat → Prop} {α : Type} {enc : α → List AV} {sz : Nat} {a : Option Addr} {cap : Nat} : Reads w S (.slice a 0 cap) enc sz [] :=
  ⟨a, cap, [], rfl, by simp, fun h => absurd h (by simp), fun i x k c h => by simp at h⟩

theorem reads_sl {S : Nat → Prop} {α : Type} {enc : α → List AV} {sz : Nat} {d : α} {xs : List α} {v : Value} (h : VR w S E (.sl α enc sz d xs) v) : Reads w S v enc sz xs ∧ (∀ x ∈ xs, (enc x).length = sz) := by
  cases h with
  | @sl _ _ _ _ _ _ a n cap ad f hn hm hcp ha hsp hs hb hsz hc hv =>
    subst hn
    refine ⟨⟨a, cap, (List.range (xs.length * sz)).map fun p => f (p / sz) (p % sz), rfl, by simp, fun h0 => ⟨ad, ha h0, fun k u hk => ?_⟩, fun i x k c h1 h2 => ?_⟩, hsz⟩
    · rw [List.getElem?_map] at hk
      have hlt : k < xs.length * sz := by
        rcases Nat.lt_or_ge k (xs.length * sz) with h | h
        · exact h
        · simp [h] at hk
      simp [hlt] at hk
      have hz : 0 < sz := by
        rcases Nat.eq_zero_or_pos sz with h | h
        · subst h; simp at hlt
        · exact h
      have h1 : k / sz < xs.length := by rw [Nat.div_lt_iff_lt_mul hz]; exact hlt
      have h2 := hc (k / sz) (k % sz) h1 (Nat.mod_lt _ hz)
      rw [Nat.mul_comm, Nat.div_add_mod] at h2
      obtain ⟨b, o, sp⟩ := ad
      simp only at hsp
      subst hsp
      rw [addr_add, ← hk]
      exact h2
    · have hi := (List.getElem?_eq_some_iff.1 h1).1
      have hk : k < sz := by
        have h' := (List.getElem?_eq_some_iff.1 h2).1
        rw [hsz x (List.mem_of_getElem? h1)] at h'
        exact h'
      have hz : 0 < sz := by omega
      have e1 : (i * sz + k) / sz = i := by
        rw [Nat.mul_comm, Nat.mul_add_div hz, Nat.div_eq_of_lt hk, Nat.add_zero]
      have e2 : (i * sz + k) % sz = k := by
        rw [Nat.mul_comm, Nat.mul_add_mod, Nat.mod_eq_of_lt hk]
      have hlt : i * sz + k < xs.length * sz := by
        have := Nat.mul_le_mul_right sz hi
        rw [Nat.succ_mul] at this
        omega
      refine ⟨f i k, ?_, hv i x k c h1 h2⟩
      rw [List.getElem?_map]
      simp [hlt, e1, e2]

theorem reads_row (hr : HR w X m E hp) {α : Type} {enc : α → List AV} {sz : Nat} {d : α} {xs : List α} {j ver : Nat} {v : Value} (hj : hp[j]? = some (.row α enc sz d xs ver)) (h : VR w (SX X E hp) E (.rowf j ver) v) :
    Reads w (SX X E hp) v enc sz xs ∧ (∀ x ∈ xs, (enc x).length = sz) := by
  cases h with
  | @rowf _ _ _ s a n cap hE hk hle hh =>
    obtain ⟨k1, k2, k3, k4, k5, k6, k7, k8, k9⟩ := hr.obj j _ s hj hE
    obtain ⟨rfl, rfl, q1, q2⟩ := hh k2
    rw [k4]
    refine ⟨?_, k6⟩
    cases hb : s.b with
    | none =>
      have h0 := (q2 hb).1
      rw [k4] at h0
      have : xs = [] := List.eq_nil_of_length_eq_zero h0
      subst this
      exact reads_nil
    | some b =>
      obtain ⟨vs, t, e1, e2, e3⟩ := k9 b hb
      have hle : xs.length * sz ≤ s.cap * sz := Nat.mul_le_mul_right _ k5
      refine ⟨a, s.cap, vs.take (xs.length * sz), rfl, by rw [List.length_take, e2]; omega, fun h0 => ⟨_, q1 b hb, fun k u hu => ?_⟩, fun i x k c h1 h2 => ?_⟩
      · rw [addr_add]
        rw [List.getElem?_take] at hu
        split at hu
        · simp only [World.cell?, e1, Nat.zero_add]
          simpa using hu
        · cases hu
      · obtain ⟨u, hu, hv⟩ := e3 i x k c h1 h2
        refine ⟨u, ?_, hv⟩
        have hi := (List.getElem?_eq_some_iff.1 h1).1
        have hk' := (List.getElem?_eq_some_iff.1 h2).1
        rw [k6 x (List.mem_of_getElem? h1)] at hk'
        have := Nat.mul_le_mul_right sz hi
        rw [Nat.succ_mul] at this
        rw [List.getElem?_take, if_pos (by omega)]
        exact hu

theorem run_room (t ty e : TypeId) (i : TypeInfo) (ht : P.underlying t = some (.slice e)) (hi : P.info? e = some i) (g sLen sCap : Nat) (cur : Array Value) (tt : TypeId) (hg : w.heap[g]? = some (.cells cur tt (0, 0)))
    (a : Addr) (m c : Nat) (news : List Value) (hl : news.length = m * i.size) (hnews : ∀ j u, news[j]? = some u → w.cell? (a.add j) = some u) (h1 : ∀ u ∈ news, u.oneCell' = true)
    (hroom : sLen + m ≤ sCap) (hfit : sLen * i.size + news.length ≤ cur.size) :
    (Builtin.append_ #[t, t] ty #[.slice (some ⟨g, 0, none⟩) sLen sCap, .slice (some a) m c]).run P w =
      .ok (.slice (some ⟨g, 0, none⟩) (sLen + m) sCap) (w.setRow g (cur.toList.take (sLen * i.size) ++ news ++ cur.toList.drop (sLen * i.size + news.length)).toArray) := by
  have hf := run_firstCells_some (P := P) w i.size m a m c news hl hnews
  have hst := run_storeCells_at P g (sLen * i.size) tt news 0 cur w hg (by simpa using hfit) h1
  simp only [Nat.add_zero] at hst
  simp [Builtin.append_, run_underlying ht, sizeOf, typeInfo, hi, Builtin.lenOf, hroom, hf, Addr.add_lit, hst]

theorem run_none (t ty e : TypeId) (i : TypeInfo) (ht : P.underlying t = some (.slice e)) (hi : P.info? e = some i) (a : Option Addr) (n cap : Nat) (hn : n ≤ cap) (a' : Option Addr) (c' : Nat) :
    (Builtin.append_ #[t, t] ty #[.slice a n cap, .slice a' 0 c']).run P w = .ok (.slice a n cap) w := by
  cases a <;> cases a' <;> simp [Builtin.append_, run_underlying ht, sizeOf, typeInfo, hi, Builtin.lenOf, hn, Builtin.firstCells, loadCells, loadCellsFrom, storeCells]

theorem slice_desc (hT : TOk P T) {t e : Nat} (ht : (T t).k = .slice e) : P.underlying t = some (.slice e) := by
  obtain ⟨i, d, z, hi, hu, hk, _⟩ := hT t (by rw [ht]; simp)
  rw [ht] at hk
  cases d <;> first | exact hk.elim | skip
  simp only [KOk] at hk
  rw [hu, hk]

theorem cells_two {S : Nat → Prop} {α : Type} {enc : α → List AV} {sz : Nat} {xs ys : List α} {olds news : List Value} (hlo : olds.length = xs.length * sz) (hx : ∀ x ∈ xs, (enc x).length = sz)
    (h1 : ∀ (i : Nat) x (k : Nat) c, xs[i]? = some x → (enc x)[k]? = some c → ∃ u, olds[i * sz + k]? = some u ∧ VR w S [] c u)
    (h2 : ∀ (i : Nat) x (k : Nat) c, ys[i]? = some x → (enc x)[k]? = some c → ∃ u, news[i * sz + k]? = some u ∧ VR w S [] c u)
    (i : Nat) (x : α) (k : Nat) (c : AV) (hi : (xs ++ ys)[i]? = some x) (hk : (enc x)[k]? = some c) : ∃ u, (olds ++ news)[i * sz + k]? = some u ∧ VR w S [] c u := by
  by_cases hl : i < xs.length
  · rw [List.getElem?_append_left hl] at hi
    obtain ⟨u, hu, hv⟩ := h1 i x k c hi hk
    exact ⟨u, by rw [List.getElem?_append_left (List.getElem?_eq_some_iff.1 hu).1]; exact hu, hv⟩
  · rw [List.getElem?_append_right (by omega)] at hi
    obtain ⟨u, hu, hv⟩ := h2 _ x k c hi hk
    refine ⟨u, ?_, hv⟩
    have e : i * sz + k - olds.length = (i - xs.length) * sz + k := by
      rw [hlo, Nat.sub_mul]
      have := Nat.mul_le_mul_right sz (Nat.le_of_not_lt hl)
      omega
    rw [List.getElem?_append_right (by rw [hlo]; have := Nat.mul_le_mul_right sz (Nat.le_of_not_lt hl); omega), e]
    exact hu

/-- One row turns into a longer one. -/
theorem row_turn (hr : HR w X m E hp) {j ver : Nat} {α : Type} {enc : α → List AV} {sz : Nat} {d : α} {xs zs : List α} {s : Slot} (hj : hp[j]? = some (.row α enc sz d xs ver)) (hE : E[j]? = some s) {w' : World} (hf : FrameW (ownAt E hp j) w w') {b' : Option Nat} {cap' : Nat}
    (hcap : zs.length ≤ cap') (hmx : zs.length ≤ 9223372036854775807) (hsz : ∀ x ∈ zs, (enc x).length = sz) (hnb : b' = none → cap' = 0) (hbb : ∀ b, b' = some b → b < w'.heap.size ∧ (s.b = some b ∨ w.heap.size ≤ b))
    (hc : ∀ b, b' = some b → ∃ vs t, w'.heap[b]? = some (.cells ⟨vs⟩ t (0, 0)) ∧ vs.length = cap' * sz ∧ ∀ (i : Nat) x (k : Nat) c, zs[i]? = some x → (enc x)[k]? = some c → ∃ u, vs[i * sz + k]? = some u ∧ VR w (SX X E hp) [] c u)
    {a' : Option Addr} (ha : ∀ b, b' = some b → a' = some ⟨b, 0, none⟩) (hn0 : b' = none → zs.length = 0) :
    After w X m E hp (.rowf j (ver + 1)) [(j, .row α enc sz d zs (ver + 1))] (.slice a' zs.length cap') w' := by
  obtain ⟨k1, k2, k3, k4, k5, k6, k7, k8, k9⟩ := hr.obj j _ s hj hE
  have hjl := (List.getElem?_eq_some_iff.1 hj).1
  have hjE := (List.getElem?_eq_some_iff.1 hE).1
  have he : ExtE E (E.set j ⟨.row, b', cap', ver + 1, sz, zs.length⟩) := by
    intro i si hi hp
    by_cases e : j = i
    · subst e
      rw [hE] at hi
      cases hi
      exact ⟨_, by rw [List.getElem?_set_self hjE], .inr ⟨k1, rfl, by simp only; omega⟩⟩
    · exact ⟨si, by rw [List.getElem?_set_ne e]; exact hi, .inl rfl⟩
  have hat : ∀ b, s.b = some b → ownAt E hp j b := fun b hb => ⟨_, s, hj, rfl, hE, hb⟩
  have hfS : FrameW (SX X E hp) w w' := hf.mono fun b _ hb => .inr hb.own
  have hown : ∀ b, b < w.heap.size → own (E.set j ⟨.row, b', cap', ver + 1, sz, zs.length⟩) (hp.set j (.row α enc sz d zs (ver + 1))) b → own E hp b := by
    rintro b hlt ⟨i, o, si, h1, h2, h3, h4⟩
    by_cases e : j = i
    · subst e
      rw [List.getElem?_set_self hjE] at h3
      cases h3
      rcases (hbb b h4).2 with h' | h'
      · exact (hat b h').own
      · omega
    · rw [List.getElem?_set_ne e] at h1 h3
      exact ⟨i, o, si, h1, h2, h3, h4⟩
  have hS : ∀ b, b < w.heap.size → SX X (E.set j ⟨.row, b', cap', ver + 1, sz, zs.length⟩) (hp.set j (.row α enc sz d zs (ver + 1))) b → SX X E hp b := fun b hlt hx => hx.imp id (hown b hlt)
  obtain ⟨H, hown'⟩ := hr.turn j hjl ⟨.row, b', cap', ver + 1, sz, zs.length⟩ (.row α enc sz d zs (ver + 1)) hf he (fun b _ hb => ⟨(hbb b hb).1, (hbb b hb).2.imp (hat b) id⟩) (by
    refine ⟨rfl, rfl, rfl, rfl, hcap, hsz, hnb, hmx, fun b hb => ?_⟩
    obtain ⟨vs, t, e1, e2, e3⟩ := hc b hb
    refine ⟨vs, t, e1, e2, fun i x k c h1 h2 => ?_⟩
    obtain ⟨u, hu, hv⟩ := e3 i x k c h1 h2
    exact ⟨u, hu, hv.mono hfS hS (.refl _)⟩)
  refine ⟨_, he, H, hf.mono fun b _ h => h.own, hown', ?_, fun i hi => by rw [List.getElem?_set_ne (hi _ (List.mem_singleton.2 rfl))]⟩
  exact .rowf (by rw [List.getElem?_set_self hjE]) rfl (Nat.le_refl _) fun _ => ⟨rfl, rfl, ha, fun h => ⟨hn0 h, hnb h⟩⟩

theorem append_row (hT : TOk P T) (hr : HR w X m E hp) {t e : Nat} (ht : (T t).k = .slice e) (hke : (T e).k ≠ .other) {j ver : Nat} {α : Type} {enc : α → List AV} {sz : Nat} {d : α} {xs ys : List α} (hj : hp[j]? = some (.row α enc sz d xs ver)) (hsz : sz = (T e).size) (h0 : 0 < sz)
    {v y : Value} (hv : VR w (SX X E hp) E (.rowf j ver) v) (hy : Reads w (SX X E hp) y enc sz ys) (hys : ∀ y ∈ ys, (enc y).length = sz ∧ ones (enc y) = true)
    (b1 : xs.length + ys.length ≤ 9223372036854775807) (b2 : (xs.length + ys.length) * (T e).bytes ≤ 140737488355328) (ty : TypeId) :
    ∃ v' w', (Builtin.append_ #[t, t] ty #[v, y]).run P w = .ok v' w' ∧ After w X m E hp (.rowf j (ver + 1)) [(j, .row α enc sz d (xs ++ ys) (ver + 1))] v' w' := by
  have hu := slice_desc hT ht
  obtain ⟨i, dd, z, hi, hui, hki, hs, hby, hz, hzo⟩ := hT e hke
  obtain ⟨z', hz1, hzs, _, _⟩ := zero_run (w := w) hT hke
  have hzz : z' = z := by
    rw [run_zeroValue hi hz] at hz1
    cases hz1
    rfl
  subst hzz
  have hv0 := hv
  cases hv with
  | @rowf _ _ _ s a n cap hE hk hle hh =>
  obtain ⟨k1, k2, k3, k4, k5, k6, k7, k8, k9⟩ := hr.obj j _ s hj hE
  obtain ⟨rfl, rfl, q1, q2⟩ := hh k2
  obtain ⟨⟨ax, cx, olds, ex, hlo, hax, hcx⟩, _⟩ := reads_row hr hj hv0
  injection ex with ex1 ex2 ex3
  subst ex1 ex3
  obtain ⟨ay, cy, news, rfl, hln, hay, hcy⟩ := hy
  rw [k4] at *
  have hall : ∀ x ∈ xs ++ ys, (enc x).length = sz := by
    intro x hx
    rcases List.mem_append.1 hx with h | h
    · exact k6 x h
    · exact (hys x h).1
  have hlen : (xs ++ ys).length = xs.length + ys.length := List.length_append
  have hcells := cells_two (w := w) (S := SX X E hp) (enc := enc) (sz := sz) (xs := xs) (ys := ys) hlo k6 hcx hcy
  by_cases hy0 : ys.length = 0
  · have : ys = [] := List.eq_nil_of_length_eq_zero hy0
    subst this
    refine ⟨_, _, run_none t ty e i hu hi a xs.length s.cap k5 ay cy, ?_⟩
    have := row_turn (w' := w) hr hj hE (zs := xs ++ []) (FrameW.refl _ _) (b' := s.b) (cap' := s.cap) (by simpa using k5) (by simpa using k8) hall k7
      (fun b hb => ⟨hr.lt j _ s b hj rfl hE hb, .inl hb⟩) (fun b hb => by
        obtain ⟨vs, tt, e1, e2, e3⟩ := k9 b hb
        exact ⟨vs, tt, e1, e2, fun i x k c h1 h2 => e3 i x k c (by simpa using h1) h2⟩) (a' := a) q1 (fun h => by simpa using (q2 h).1)
    simpa using this
  · have hyp : 0 < ys.length := Nat.pos_of_ne_zero hy0
    obtain ⟨ad, rfl, had⟩ := hay hyp
    have h1c : ∀ u ∈ news, u.oneCell' = true := by
      intro u hu
      obtain ⟨p, hp', rfl⟩ := List.getElem_of_mem hu
      have hpl : p < ys.length * sz := by rw [← hln]; exact hp'
      have a1 : p / sz < ys.length := by rw [Nat.div_lt_iff_lt_mul h0]; exact hpl
      have a2 : p % sz < sz := Nat.mod_lt _ h0
      have a3 : ys[p / sz]? = some ys[p / sz] := by simp [a1]
      have a4 := hys ys[p / sz] (List.getElem_mem a1)
      have a5 : p % sz < (enc ys[p / sz]).length := by rw [a4.1]; exact a2
      obtain ⟨u, hu1, hu2⟩ := hcy (p / sz) _ (p % sz) _ a3 (List.getElem?_eq_getElem a5)
      rw [Nat.mul_comm, Nat.div_add_mod] at hu1
      rw [List.getElem?_eq_getElem hp'] at hu1
      cases hu1
      have : ∀ {cs : List AV}, ones cs = true → ∀ c ∈ cs, c.one = true := by
        intro cs
        induction cs with
        | nil => intro _ c h; cases h
        | cons x l ih =>
          intro h c hc
          simp only [ones, Bool.and_eq_true] at h
          rcases List.mem_cons.1 hc with rfl | hc
          · exact h.1
          · exact ih h.2 c hc
      exact hu2.one (this a4.2 _ (List.getElem_mem a5))
    by_cases hroom : xs.length + ys.length ≤ s.cap
    · obtain ⟨b, hb⟩ : ∃ b, s.b = some b := by
        cases hb : s.b with
        | none => have := k7 hb; omega
        | some b => exact ⟨b, rfl⟩
      obtain ⟨vs, tt, e1, e2, e3⟩ := k9 b hb
      have ea := q1 b hb
      subst ea
      have hle1 : (xs.length + ys.length) * sz ≤ s.cap * sz := Nat.mul_le_mul_right _ hroom
      rw [Nat.add_mul] at hle1
      refine ⟨_, _, run_room t ty e i hu hi b xs.length s.cap ⟨vs⟩ tt e1 ad ys.length cy news (by rw [hln, hsz, hs]) had h1c hroom (by rw [hs, ← hsz, hln]; simp only [List.size_toArray, e2]; exact hle1), ?_⟩
      have ho : olds = vs.take (xs.length * sz) := by
        apply List.ext_getElem?
        intro p
        have hcl : (vs.take (xs.length * sz)).length = xs.length * sz := by rw [List.length_take, e2]; omega
        by_cases hp' : p < xs.length * sz
        · have hxp : 0 < xs.length := by
            rcases Nat.eq_zero_or_pos xs.length with h | h
            · rw [h] at hp'; simp at hp'
            · exact h
          obtain ⟨ad', h1, h2⟩ := hax hxp
          cases h1
          have h3 := h2 p olds[p] (by rw [List.getElem?_eq_getElem])
          rw [addr_add] at h3
          simp only [World.cell?, e1, Nat.zero_add] at h3
          rw [List.getElem?_take, if_pos hp', List.getElem?_eq_getElem (by omega)]
          simpa using h3.symm
        · rw [List.getElem?_eq_none (by omega), List.getElem?_eq_none (by omega)]
      have hsize : i.size = sz := by rw [hs, hsz]
      have := row_turn (w' := w.setRow b (vs.take (xs.length * sz) ++ news ++ vs.drop (xs.length * sz + news.length)).toArray) hr hj hE (zs := xs ++ ys) (FrameW.setRow w b _ _ ⟨_, s, hj, rfl, hE, hb⟩) (b' := some b) (cap' := s.cap) (by rw [hlen]; exact hroom) (by rw [hlen]; exact b1) hall (fun h => by cases h)
        (fun b' hb' => by cases hb'; exact ⟨by simpa using hr.lt j _ s b hj rfl hE hb, .inl hb⟩) (fun b' hb' => by
          cases hb'
          refine ⟨_, tt, setRow_heap w b _ _ tt (0, 0) e1, ?_, fun i x k c h1 h2 => ?_⟩
          · simp only [List.length_append, List.length_take, List.length_drop, e2, hln]
            omega
          · obtain ⟨u, hu, hv⟩ := hcells i x k c h1 h2
            refine ⟨u, ?_, hv⟩
            rw [ho] at hu
            rw [List.getElem?_append_left (List.getElem?_eq_some_iff.1 hu).1]
            exact hu) (a' := some ⟨b, 0, none⟩) (fun b' hb' => by cases hb'; rfl) (fun h => by cases h)
      rw [hlen] at this
      simpa only [hsize] using this
    · -- a new row
      have hsize : i.size = sz := by rw [hs, hsz]
      have hgrow : ∀ (old : Nat), old = s.cap → ∀ v' : Value, v' = .slice (some ⟨w.heap.size, 0, none⟩) (xs.length + ys.length) (grownCap w (xs.length + ys.length) old e) →
          After w X m E hp (.rowf j (ver + 1)) [(j, .row α enc sz d (xs ++ ys) (ver + 1))] v' (w.drew.alloc (.cells (olds.toArray ++ news.toArray ++ Builtin.zeroCells z'.cells (grownCap w (xs.length + ys.length) old e - (xs.length + ys.length))) e)) := by
        rintro old rfl v' rfl
        have hge := grownCap_ge w (xs.length + ys.length) s.cap e
        have hsz' : (w.drew.alloc (.cells (olds.toArray ++ news.toArray ++ Builtin.zeroCells z'.cells (grownCap w (xs.length + ys.length) s.cap e - (xs.length + ys.length))) e)).heap.size = w.heap.size + 1 := by
          rw [alloc_size]
          rfl
        have hfr : FrameW (ownAt E hp j) w (w.drew.alloc (.cells (olds.toArray ++ news.toArray ++ Builtin.zeroCells z'.cells (grownCap w (xs.length + ys.length) s.cap e - (xs.length + ys.length))) e)) :=
          (show FrameW (ownAt E hp j) w w.drew from ⟨rfl, rfl, rfl, Nat.le_refl _, fun _ _ _ => rfl⟩).trans (allocS w.drew _ _) (fun _ _ h => h)
        have := row_turn (w' := w.drew.alloc (.cells (olds.toArray ++ news.toArray ++ Builtin.zeroCells z'.cells (grownCap w (xs.length + ys.length) s.cap e - (xs.length + ys.length))) e)) hr hj hE (zs := xs ++ ys) hfr (b' := some w.heap.size) (cap' := grownCap w (xs.length + ys.length) s.cap e) (by rw [hlen]; exact hge) (by rw [hlen]; exact b1) hall (fun h => by cases h)
          (fun b' hb' => by cases hb'; exact ⟨by rw [hsz']; exact Nat.lt_succ_self _, .inr (Nat.le_refl _)⟩) (fun b' hb' => by
            cases hb'
            have hce : (olds.toArray ++ news.toArray ++ Builtin.zeroCells z'.cells (grownCap w (xs.length + ys.length) s.cap e - (xs.length + ys.length))) = ⟨olds ++ news ++ (Builtin.zeroCells z'.cells (grownCap w (xs.length + ys.length) s.cap e - (xs.length + ys.length))).toList⟩ := by
              apply Array.ext'
              simp
            refine ⟨olds ++ news ++ (Builtin.zeroCells z'.cells (grownCap w (xs.length + ys.length) s.cap e - (xs.length + ys.length))).toList, e, by rw [← hce]; exact alloc_at w.drew _, ?_, fun i x k c h1 h2 => ?_⟩
            · simp only [List.length_append, Array.length_toList, size_zeroCells, hlo, hln, hzs, ← hsz]
              rw [← Nat.add_mul, ← Nat.add_mul]
              congr 1
              omega
            · obtain ⟨u, hu, hv⟩ := hcells i x k c h1 h2
              refine ⟨u, ?_, hv⟩
              rw [List.getElem?_append_left (List.getElem?_eq_some_iff.1 hu).1]
              exact hu) (a' := some ⟨w.heap.size, 0, none⟩) (fun b' hb' => by cases hb'; rfl) (fun h => by cases h)
        rw [hlen] at this
        exact this
      have hfit : Builtin.nextslicecap (xs.length + ys.length) s.cap * i.bytes ≤ 281474976710656 := by
        rw [hby]
        exact growslice_fits (by omega) b2
      cases a with
      | none =>
        have hx0 : xs = [] := by
          rcases Nat.eq_zero_or_pos xs.length with h | h
          · exact List.eq_nil_of_length_eq_zero h
          · obtain ⟨ad', h1, _⟩ := hax h
            cases h1
        have hsb : s.b = none := by
          cases hb : s.b with
          | none => rfl
          | some b => cases q1 b hb
        have hc0 : s.cap = 0 := k7 hsb
        subst hx0
        have ho0 : olds = [] := List.eq_nil_of_length_eq_zero (by simpa using hlo)
        subst ho0
        have hrun := run_append_nil (P := P) w t ty e i z' hu hi hz ad ys.length cy news (by rw [hln, hsize]) had hyp (by simp at b1; omega) (by
          have h := hfit
          simp only [List.length_nil, Nat.zero_add, hc0] at h
          rw [nextslicecap_zero hyp] at h
          exact h)
        rw [hc0]
        refine ⟨_, _, hrun, ?_⟩
        have := hgrow 0 hc0.symm _ rfl
        simpa using this
      | some aa =>
        have hrun := run_append_grow (P := P) w t ty e i z' hu hi hz aa xs.length s.cap olds (by rw [hlo, hsize]) (fun k u hk => by
          have hx0 : 0 < xs.length := by
            rcases Nat.eq_zero_or_pos xs.length with h | h
            · rw [h, Nat.zero_mul] at hlo
              have : olds = [] := List.eq_nil_of_length_eq_zero hlo
              subst this
              simp at hk
            · exact h
          obtain ⟨ad', h1, h2⟩ := hax hx0
          cases h1
          exact h2 k u hk) ad ys.length cy news (by rw [hln, hsize]) had (by omega) (by omega) hfit
        exact ⟨_, _, hrun, hgrow s.cap rfl _ rfl⟩
end
end Go.Mir
