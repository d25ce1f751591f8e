/- That the operations do so: stores, new objects. No condition. -/
import Derived.Test.YtndjmkglbcbddaaDoorMirE
set_option linter.unusedVariables false
namespace Go.Mir

section
variable {P : Program} {T : Nat → TI} {g : Option Bool} {w : World} {X : Nat → Prop} {m : Nat} {E : List Slot} {hp : List Obj} {a : Act} {ev : Operand → AV} {o : Oper}

theorem FrameW.setRow (w : World) (b : Nat) (cs : Array Value) (S : Nat → Prop) (hb : S b) : FrameW S w (w.setRow b cs) :=
  ⟨rfl, rfl, rfl, by simp, fun k _ hk => setRow_other w b k cs fun e => hk (e ▸ hb)⟩

theorem closeds_at : ∀ {cs : List AV}, AV.closed.closeds cs = true → ∀ c ∈ cs, c.closed = true
  | [], _, c, h => by cases h
  | x :: cs, h, c, hc => by
    simp only [AV.closed.closeds, Bool.and_eq_true] at h
    rcases List.mem_cons.1 hc with rfl | hc
    · exact h.1
    · exact closeds_at h.2 c hc
theorem ones_at : ∀ {cs : List AV}, ones cs = true → ∀ c ∈ cs, c.one = true
  | [], _, c, h => by cases h
  | x :: cs, h, c, hc => by
    simp only [ones, Bool.and_eq_true] at h
    rcases List.mem_cons.1 hc with rfl | hc
    · exact h.1
    · exact ones_at h.2 c hc

/-- A value without references reads so without objects. -/
theorem VR.shut {S : Nat → Prop} {c : AV} {v : Value} (h : VR w S E c v) : c.closed = true → VR w S [] c v := by
  induction h with
  | any => exact fun _ => .any
  | bool => exact fun _ => .bool
  | int => exact fun _ => .int
  | str => exact fun _ => .str
  | nilp => exact fun _ => .nilp
  | nilf => exact fun _ => .nilf
  | nili => exact fun _ => .nili
  | nilm => exact fun _ => .nilm
  | nils => exact fun _ => .nils
  | agg hl _ ih => exact fun hc => .agg hl fun j c v h1 h2 => ih j c v h1 h2 (closeds_at hc c (List.mem_of_getElem? h1))
  | tup hl _ ih => exact fun hc => .tup hl fun j c v h1 h2 => ih j c v h1 h2 (closeds_at hc c (List.mem_of_getElem? h1))
  | sl ad f hn hm hcp ha hsp hs hb hsz hc hv => exact fun _ => .sl ad f hn hm hcp ha hsp hs hb hsz hc hv
  | fz f hsp hs hb hc hv => exact fun _ => .fz f hsp hs hb hc hv
  | fmap hs hb hl hbn hnd hk hv => exact fun _ => .fmap hs hb hl hbn hnd hk hv
  | loc _ _ _ => exact fun h => by cases h
  | rowf _ _ _ _ => exact fun h => by cases h
  | rloc _ _ _ _ _ => exact fun h => by cases h
  | mp _ _ _ => exact fun h => by cases h
  | csl _ _ _ => exact fun h => by cases h
  | fn hl hl' _ _ ih ih' =>
    intro hc
    simp only [AV.closed, Bool.and_eq_true] at hc
    exact .fn hl hl' (fun j c v h1 h2 => ih j c v h1 h2 (closeds_at hc.1 c (List.mem_of_getElem? h1))) (fun j c v h1 h2 => ih' j c v h1 h2 (closeds_at hc.2 c (List.mem_of_getElem? h1)))
  | when _ h0 ih => exact fun hc => .when (fun hb => ih hb hc) h0

theorem run_storeAt {t : Nat} {i : TypeInfo} (hi : P.info? t = some i) (w : World) (b o : Nat) (cur : List Value) (tt : TypeId) (x : Value) (hg : w.heap[b]? = some (.cells ⟨cur⟩ tt (0, 0)))
    (hl : x.cells.size = i.size) (hfit : o + i.size ≤ cur.length) (h1 : ∀ v ∈ x.cells.toList, v.oneCell' = true) :
    (Instr.storeAt t (.pointer (some ⟨b, o, none⟩)) x).run P w = .ok () (w.setRow b ⟨cur.take o ++ x.cells.toList ++ cur.drop (o + i.size)⟩) := by
  have := run_storeVar (P := P) hi w b o ⟨cur⟩ tt x hg hl (by simpa using hfit) h1
  simp only [Instr.storeAt, Instr.sureAddr, Sem.run_bind, Sem.run_pure, Result.andThen_ok, this]

theorem VRL.ones {S : Nat → Prop} {cs : List AV} {vs : List Value} (h : VRL w S E cs vs) (ho : Go.Mir.ones cs = true) : ∀ v ∈ vs, v.oneCell' = true := by
  intro v hv
  obtain ⟨j, hj, rfl⟩ := List.getElem_of_mem hv
  have hj' : j < cs.length := by rw [h.1]; exact hj
  exact (h.2 j cs[j] vs[j] (by simp [hj']) (by simp [hj])).one (ones_at ho _ (List.getElem_mem hj'))

/-- A store into an owned row of cells. -/
theorem store_cells (hT : TOk P T) (hr : HR w X m E hp) {t : Nat} (ht : (T t).k ≠ .other) {j off : Nat} {p b c vs : List AV} (hj : hp[j]? = some (.cells (p ++ b ++ c))) (hp' : p.length = off) (hb : b.length = vs.length) (hvs : vs.length = (T t).size) (ho : Go.Mir.ones vs = true)
    {y x : Value} (hy : VR w (SX X E hp) E (.loc j off) y) (hx : VRL w (SX X E hp) E vs x.cells.toList) :
    ∃ w', (Instr.storeAt t y x).run P w = .ok () w' ∧ After w X m E hp .any [(j, .cells (p ++ vs ++ c))] undef w' := by
  cases hy with
  | @loc _ _ _ bb s hE hk hbb =>
  obtain ⟨i, d, z, hi, hu, hkk, hs, hby, hz, hzo⟩ := hT t ht
  obtain ⟨hk', b', cur, tt, h1, h2, h3, h4⟩ := hr.obj j _ s hj hE
  rw [hbb] at h1
  cases h1
  have hcur : VRL w (SX X E hp) E (p ++ b ++ c) cur := ⟨h3, h4⟩
  obtain ⟨cpb, cc, rfl, hpb, hcc⟩ := hcur.split
  obtain ⟨cp, cb, rfl, hpp, hbbb⟩ := hpb.split
  have e1 : cp.length = off := by rw [← hpp.1]; exact hp'
  have e2 : cb.length = i.size := by rw [← hbbb.1, hb, hvs, hs]
  have hrun := run_storeAt (P := P) hi w bb off (cp ++ cb ++ cc) tt x h2 (by have := hx.1; rw [← Array.length_toList, ← this, hvs, hs]) (by simp; omega) (hx.ones ho)
  have et : (cp ++ cb ++ cc).take off = cp := by rw [List.append_assoc, ← e1, List.take_left]
  have ed : (cp ++ cb ++ cc).drop (off + i.size) = cc := by rw [show off + i.size = (cp ++ cb).length by simp; omega, List.drop_left]
  rw [et, ed] at hrun
  refine ⟨_, hrun, ?_⟩
  have hjl := (List.getElem?_eq_some_iff.1 hj).1
  have hjE := (List.getElem?_eq_some_iff.1 hE).1
  have hat : ownAt E hp j bb := ⟨_, s, hj, rfl, hE, hbb⟩
  have hf : FrameW (ownAt E hp j) w (w.setRow bb ⟨cp ++ x.cells.toList ++ cc⟩) := .setRow w bb _ _ hat
  have hset : E.set j s = E := by
    apply List.ext_getElem?
    intro k
    rw [List.getElem?_set]
    split
    · rename_i e; subst e; rw [hE]
    · rfl
  have hfS : FrameW (SX X E hp) w (w.setRow bb ⟨cp ++ x.cells.toList ++ cc⟩) := hf.mono fun _ _ h => .inr h.own
  have hown1 : ∀ o', o'.live = true → ∀ b, own E (hp.set j o') b → own E hp b := by
    rintro o' hl b ⟨k, ok, sk, a1, a2, a3, a4⟩
    by_cases e : j = k
    · subst e
      rw [List.getElem?_set_self hjl] at a1
      cases a1
      exact ⟨j, _, sk, hj, rfl, a3, a4⟩
    · rw [List.getElem?_set_ne e] at a1
      exact ⟨k, ok, sk, a1, a2, a3, a4⟩
  have hnew : VRL (w.setRow bb ⟨cp ++ x.cells.toList ++ cc⟩) (SX X E (hp.set j (.cells (p ++ vs ++ c)))) E (p ++ vs ++ c) (cp ++ x.cells.toList ++ cc) := by
    refine VRL.mono ((hpp.app hx).app hcc) hfS (fun b _ h => h.imp id (hown1 _ rfl b)) (.refl _)
  obtain ⟨H, hown⟩ := hr.turn j hjl s (.cells (p ++ vs ++ c)) hf (by rw [hset]; exact ExtE.refl _) (fun b _ hb' => by
      rw [hbb] at hb'
      cases hb'
      exact ⟨by simpa using hr.lt j _ s bb hj rfl hE hbb, .inl hat⟩) (by
      rw [hset]
      exact ⟨hk, bb, _, tt, hbb, setRow_heap w bb _ _ tt (0, 0) h2, hnew.1, hnew.2⟩)
  rw [hset] at H hown
  exact ⟨E, .refl _, H, hf.mono fun _ _ h => h.own, hown, .any, fun _ _ => rfl⟩

/-- A store into an element of an owned row. -/
theorem store_row (hT : TOk P T) (hr : HR w X m E hp) {t : Nat} (ht : (T t).k ≠ .other) {j ver i off : Nat} {α : Type} {enc : α → List AV} {sz : Nat} {d : α} {xs : List α} {p b c vs : List AV} (hj : hp[j]? = some (.row α enc sz d xs ver)) (hi : i < xs.length)
    (he : enc (xs.getD i d) = p ++ b ++ c) (hp' : p.length = off) (hb : b.length = vs.length) (hvs : vs.length = (T t).size) (ho : Go.Mir.ones vs = true) (hcl : closedAll vs) {e : α} (hee : enc e = p ++ vs ++ c)
    {y x : Value} (hy : VR w (SX X E hp) E (.rloc j ver i off) y) (hx : VRL w (SX X E hp) E vs x.cells.toList) :
    ∃ w', (Instr.storeAt t y x).run P w = .ok () w' ∧ After w X m E hp .any [(j, .row α enc sz d (xs.set i e) ver)] undef w' := by
  cases hy with
  | @rloc _ _ _ _ _ s ad hE hk hle hsp hh =>
  obtain ⟨ti, dd, z, hti, hu, hkk, hs, hby, hz, hzo⟩ := hT t ht
  obtain ⟨_, h1, h2, h3, h4, h5, h6, hmx, h7⟩ := hr.obj j _ s hj hE
  obtain ⟨bb, hbb, rfl⟩ := hh h1
  obtain ⟨cur, tt, e1, e2, e3⟩ := h7 bb hbb
  have hxi : xs[i]? = some (xs.getD i d) := by simp [List.getD_eq_getElem?_getD, hi]
  have hlen : (p ++ b ++ c).length = sz := by rw [← he]; exact h5 _ (List.mem_of_getElem? hxi)
  simp only [List.length_append] at hlen
  have hmul : (i + 1) * sz ≤ s.cap * sz := Nat.mul_le_mul_right _ (by omega)
  rw [Nat.add_mul, Nat.one_mul] at hmul
  have hrun := run_storeAt (P := P) hti w bb (i * sz + off) cur tt x e1 (by have := hx.1; rw [← Array.length_toList, ← this, hvs, hs]) (by rw [e2, hs, ← hvs]; omega) (hx.ones ho)
  have hjl := (List.getElem?_eq_some_iff.1 hj).1
  have hjE := (List.getElem?_eq_some_iff.1 hE).1
  have hat : ownAt E hp j bb := ⟨_, s, hj, rfl, hE, hbb⟩
  have hsz : ti.size = vs.length := by rw [hvs, hs]
  have hxl : x.cells.toList.length = vs.length := hx.1.symm
  refine ⟨_, by rw [h2]; exact hrun, ?_⟩
  have hf : FrameW (ownAt E hp j) w (w.setRow bb ⟨cur.take (i * sz + off) ++ x.cells.toList ++ cur.drop (i * sz + off + ti.size)⟩) := .setRow w bb _ _ hat
  have hset : E.set j s = E := by
    apply List.ext_getElem?
    intro k
    rw [List.getElem?_set]
    split
    · rename_i e; subst e; rw [hE]
    · rfl
  have hfS : FrameW (SX X E hp) w (w.setRow bb ⟨cur.take (i * sz + off) ++ x.cells.toList ++ cur.drop (i * sz + off + ti.size)⟩) := hf.mono fun _ _ h => .inr h.own
  have hown1 : ∀ o', o'.live = true → ∀ b, own E (hp.set j o') b → own E hp b := by
    rintro o' hl b ⟨k, ok, sk, a1, a2, a3, a4⟩
    by_cases e : j = k
    · subst e
      rw [List.getElem?_set_self hjl] at a1
      cases a1
      exact ⟨j, _, sk, hj, rfl, a3, a4⟩
    · rw [List.getElem?_set_ne e] at a1
      exact ⟨k, ok, sk, a1, a2, a3, a4⟩
  have mv : ∀ {cc : AV} {v : Value}, VR w (SX X E hp) [] cc v → VR (w.setRow bb ⟨cur.take (i * sz + off) ++ x.cells.toList ++ cur.drop (i * sz + off + ti.size)⟩) (SX X E (hp.set j (.row α enc sz d (xs.set i e) ver))) [] cc v :=
    fun h => h.mono hfS (fun b _ h => h.imp id (hown1 _ rfl b)) (.refl _)
  have hrow : OR (w.setRow bb ⟨cur.take (i * sz + off) ++ x.cells.toList ++ cur.drop (i * sz + off + ti.size)⟩) (SX X E (hp.set j (.row α enc sz d (xs.set i e) ver))) E s (.row α enc sz d (xs.set i e) ver) := by
    refine ⟨hk, h1, h2, by simp [h3], by simpa using h4, fun y hy => ?_, h6, hmx, fun b' hb' => ?_⟩
    · rcases List.mem_or_eq_of_mem_set hy with h | rfl
      · exact h5 y h
      · rw [hee]; simp; omega
    · rw [hbb] at hb'
      cases hb'
      refine ⟨_, tt, setRow_heap w bb _ _ tt (0, 0) e1, by simp only [List.length_append, List.length_take, List.length_drop]; omega, fun k y q cc hk' hq => ?_⟩
      have hq' : q < sz := by
        have h' := (List.getElem?_eq_some_iff.1 hq).1
        by_cases e : i = k
        · subst e
          rw [List.getElem?_set_self hi] at hk'
          cases hk'
          rw [hee] at h'
          simp at h'
          omega
        · rw [List.getElem?_set_ne e] at hk'
          rw [h5 y (List.mem_of_getElem? hk')] at h'
          exact h'
      have hcl' : cur.length = s.cap * sz := e2
      by_cases e : i = k
      · subst e
        rw [List.getElem?_set_self hi] at hk'
        cases hk'
        rw [hee] at hq
        by_cases c1 : q < off
        · -- before
          have : (enc (xs.getD i d))[q]? = some cc := by
            rw [he, List.append_assoc, List.getElem?_append_left (by omega)]
            rw [List.append_assoc, List.getElem?_append_left (by omega)] at hq
            exact hq
          obtain ⟨v, hv, hvr⟩ := e3 i _ q cc hxi this
          refine ⟨v, ?_, mv hvr⟩
          rw [List.append_assoc, List.getElem?_append_left (by simp; omega), List.getElem?_take, if_pos (by omega)]
          exact hv
        · by_cases c2 : q < off + vs.length
          · have hq2 : vs[q - off]? = some cc := by
              rw [List.append_assoc, List.getElem?_append_right (by omega), List.getElem?_append_left (by omega), hp'] at hq
              exact hq
            have hlt : q - off < x.cells.toList.length := by omega
            refine ⟨x.cells.toList[q - off], ?_, mv ((hx.2 (q - off) cc _ hq2 (by simp)).shut (closeds_at hcl cc (List.mem_of_getElem? hq2)))⟩
            rw [List.append_assoc, List.getElem?_append_right (by simp; omega), List.getElem?_append_left (by simp at hlt ⊢; omega)]
            rw [List.length_take, show i * sz + q - min (i * sz + off) cur.length = q - off by omega]
            simp
          · have : (enc (xs.getD i d))[q]? = some cc := by
              rw [he, List.getElem?_append_right (by simp; omega)]
              rw [List.getElem?_append_right (by simp; omega)] at hq
              simp only [List.length_append] at hq ⊢
              rw [hb]
              exact hq
            obtain ⟨v, hv, hvr⟩ := e3 i _ q cc hxi this
            refine ⟨v, ?_, mv hvr⟩
            rw [List.getElem?_append_right (by simp at hxl ⊢; omega), List.getElem?_drop]
            rw [← hv]
            congr 1
            simp at hxl ⊢
            omega
      · rw [List.getElem?_set_ne e] at hk'
        obtain ⟨v, hv, hvr⟩ := e3 k y q cc hk' hq
        refine ⟨v, ?_, mv hvr⟩
        rcases Nat.lt_or_ge k i with hki | hki
        · have : (k + 1) * sz ≤ i * sz := Nat.mul_le_mul_right _ (by omega)
          rw [Nat.add_mul, Nat.one_mul] at this
          rw [List.append_assoc, List.getElem?_append_left (by simp; omega), List.getElem?_take, if_pos (by omega)]
          exact hv
        · have : (i + 1) * sz ≤ k * sz := Nat.mul_le_mul_right _ (by omega)
          rw [Nat.add_mul, Nat.one_mul] at this
          rw [List.getElem?_append_right (by simp at hxl ⊢; omega), List.getElem?_drop]
          rw [← hv]
          congr 1
          simp at hxl ⊢
          omega
  obtain ⟨H, hown⟩ := hr.turn j hjl s (.row α enc sz d (xs.set i e) ver) hf (by rw [hset]; exact ExtE.refl _) (fun b _ hb' => by
      rw [hbb] at hb'
      cases hb'
      exact ⟨by simpa using hr.lt j _ s bb hj rfl hE hbb, .inl hat⟩) (by rw [hset]; exact hrow)
  rw [hset] at H hown
  exact ⟨E, .refl _, H, hf.mono fun _ _ h => h.own, hown, .any, fun _ _ => rfl⟩

end
end Go.Mir
