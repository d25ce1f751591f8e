/- Each operation does what 'opEff' says. No condition. -/
import Derived.Test.YtndjmkglbcbddaaDoorMirK3
set_option linter.unusedVariables false
namespace Go.Mir

section
variable {P : Program} {T : Nat → TI} {g : Option Bool} {w : World} {X : Nat → Prop} {m : Nat} {E : List Slot} {hp : List Obj} {a : Act} {ev : Operand → AV} {o : Oper}

theorem VRL.shut {S : Nat → Prop} {cs : List AV} {vs : List Value} (h : VRL w S E cs vs) (hc : closedAll cs) : VRL w S [] cs vs :=
  ⟨h.1, fun j c v h1 h2 => (h.2 j c v h1 h2).shut (closeds_at hc c (List.mem_of_getElem? h1))⟩

theorem fn_inv {S : Nat → Prop} {f : Fn} {as cs : List AV} {v : Value} (h : VR w S E (.fn f as cs) v) : ∃ av cv, v = .func f ⟨av⟩ ⟨cv⟩ ∧ VRL w S E as av ∧ VRL w S E cs cv := by
  cases h with | fn hl hl' h h' => exact ⟨_, _, rfl, ⟨hl, h⟩, hl', h'⟩

theorem exec_value {s : Sem Value} {v : Value} {w' : World} (h : s.run P w = .ok v w') : (do pure (Next.value (← s)) : Sem Next).run P w = .ok (.value v) w' := by
  simp [h]
theorem exec_skip {s : Sem Unit} {w' : World} (h : s.run P w = .ok () w') : (do s; pure Next.skip : Sem Next).run P w = .ok .skip w' := by
  simp [h]

set_option maxHeartbeats 1000000 in
theorem opEff_sound (hT : TOk P T) (hg : g = none ∨ g = some true) {n : Nat} {K : AV → List (Nat × Obj) → List Nat → Prop} (h : opEff P T g o.op ev hp n K) (hr : HR w X m E hp)
    (hev : ∀ x, VR w (SX X E hp) E (ev x) (a.eval x)) (hph : news o.op ≠ 0 → n < hp.length → hp[n]? = some .dead ∧ E[n]? = some Slot.none) (hK : ∀ val wr rd, K val wr rd → ∀ p ∈ wr, p.1 < hp.length) :
    ∃ val wr rd, K val wr rd ∧ Does P o a w (After w X m E hp val wr) := by
  obtain ⟨dst, op, ty, pos, after, guard⟩ := o
  simp only at h ⊢
  unfold opEff at h
  split at h
  · -- move
    exact ⟨_, _, _, h, pure_does hr (v := a.eval _) rfl (hev _)⟩
  · exact ⟨_, _, _, h, pure_does hr (v := a.eval _) rfl (hev _)⟩
  · -- pick
    rename_i c x y
    obtain ⟨b, r, hk, hc, hxy⟩ := pick_sound hg h (hev c) (hev x) (hev y)
    refine ⟨_, _, _, hk, pure_does hr (v := .bool r) ?_ .bool⟩
    simp [execOp, hc, asBool, hxy]
  · -- alloc
    rename_i t
    obtain ⟨ht, h⟩ := known_spec h
    have h := copyL_spec h
    have hn := hK _ _ _ h _ (List.mem_singleton.2 rfl)
    obtain ⟨p1, p2⟩ := hph (by simp [news]) hn
    obtain ⟨z, hz, hzs, hzv, _⟩ := zero_run (w := w) hT ht
    refine ⟨_, _, _, h, .value (v := .pointer (some ⟨w.heap.size, 0, none⟩)) (w' := w.alloc (.cells ⟨z.cells.toList⟩ t)) ?_ (new_cells hr hn p1 p2 t (hzv w _ E))⟩
    refine exec_value (s := Instr.alloc t true (.tuple #[])) ?_
    simp only [Instr.alloc, Sem.run_bind, hz, Result.andThen_ok, newVar, newRow, run_newObj, Sem.run_pure]
    rfl
  · -- box
    rename_i t x
    obtain ⟨ht, h⟩ := known_spec h
    obtain ⟨c, h, hc⟩ := strip_spec hg h (hev x)
    obtain ⟨cs, h, hcs⟩ := flat_spec h
    have hn := hK _ _ _ h _ (List.mem_singleton.2 rfl)
    obtain ⟨p1, p2⟩ := hph (by simp [news]) hn
    refine ⟨_, _, _, h, .value (v := .pointer (some ⟨w.heap.size, 0, none⟩)) (w' := w.alloc (.cells ⟨(a.eval x).cells.toList⟩ t)) ?_ (new_cells hr hn p1 p2 t (flat_cells hc hcs))⟩
    refine exec_value (s := Instr.box t (a.eval x)) ?_
    simp only [Instr.box, Sem.run_bind, Result.andThen_ok, newVar, newRow, run_newObj, Sem.run_pure]
    rfl
  · -- build
    rename_i t ps
    obtain ⟨val, v, hk, hrun, hv⟩ := build_run (K := fun v => K v [] []) hT hg hev h
    exact ⟨_, _, _, hk, pure_does hr (exec_value hrun) hv⟩
  · -- buildSlice
    rename_i t len ps
    split at h
    · rename_i e hke
      obtain ⟨hk, h16, h⟩ := known_spec h
      replace h16 := ob_true hg h16
      obtain ⟨z, hz, hzs, hzv, _⟩ := zero_run (w := w) hT hk
      obtain ⟨d, hu, hkd⟩ := hT.desc (t := t) (by rw [hke]; simp)
      rw [hke] at hkd
      cases d <;> first | exact hkd.elim | skip
      simp only [KOk] at hkd
      rw [hkd] at hu
      obtain ⟨ei, ed, ez, hei, heu, hek, hes, heb, hez, heo⟩ := hT e hk
      obtain ⟨ps', h, hps⟩ := stripParts_spec hg h (parts_rel hev ps)
      have hzl : (T e).zero.length = (T e).size := by rw [(hzv w (fun _ => False) []).1]; simpa using hzs
      have hzr : VRL w (SX X E hp) E (repeatL (T e).zero len) ((Array.range (len * ei.size)).map (fun i => z.cells[i % z.cells.size]!)).toList := by
        have := repeat_rel (hzv w (SX X E hp) E) len
        rw [hzl, ← hes] at this
        exact this
      obtain ⟨cs', xs', ⟨hcl, hk'⟩, hf, hv, hlen⟩ := buildE_sound (T := T) (pl := fun i => some (i * ei.size, ei.size)) (fun i ft off hpl => by
        split at hpl
        · cases hpl; rw [hes]
        · cases hpl) h hps hzr
      obtain ⟨ls, ⟨β, e', d', xs, hxs, hkk⟩, hln, hls, hcs⟩ := groups_spec hk'
      have hn := hK _ _ _ hkk _ (List.mem_singleton.2 rfl)
      obtain ⟨p1, p2⟩ := hph (by simp [news]) hn
      have hxl : xs.length = len := by rw [← hln, ← hxs]; simp
      have hsh := hv.shut hcl
      refine ⟨_, _, _, hkk, .value (v := .slice (some ⟨w.heap.size, 0, none⟩) xs.length len) (w' := w.alloc (.cells ⟨xs'⟩ e)) ?_ (new_row hr hn p1 p2 _ e (by omega) ?_ (fun x hx => ?_) ?_ (fun i x j c h1 h2 => ?_))⟩
      · refine exec_value (s := Instr.buildSlice t len (ps.map fun (i, x) => (i, a.eval x))) ?_
        simp only [Instr.buildSlice, Sem.run_bind, run_underlying hu, run_sizeOf hei, Result.andThen_ok]
        rw [if_neg (by rw [hes]; omega)]
        try simp only [Sem.run_bind, Sem.run_pure, Result.andThen_ok]
        by_cases h0 : len * ei.size = 0
        · rw [if_pos h0]
          simp only [Sem.run_bind, Sem.run_pure, Result.andThen_ok]
          have e0 : (Array.map (fun x => (#[] : Array Value)[x % (#[] : Array Value).size]!) (Array.range (len * ei.size))) = ⟨((Array.range (len * ei.size)).map (fun i => z.cells[i % z.cells.size]!)).toList⟩ := by
            rw [h0]
            have : Array.range 0 = #[] := rfl
            rw [this, Array.map_empty, Array.map_empty]
          rw [e0]
          simp only [hf, newRow, Sem.run_bind, run_newObj, Sem.run_pure, Result.andThen_ok, hxl]
          rfl
        · rw [if_neg h0]
          try simp only [Sem.run_bind, hz, Sem.run_pure, Result.andThen_ok]
          have e0 : (Array.map (fun x => z.cells[x % z.cells.size]!) (Array.range (len * ei.size))) = ⟨((Array.range (len * ei.size)).map (fun i => z.cells[i % z.cells.size]!)).toList⟩ := rfl
          rw [e0]
          simp only [hf, newRow, Sem.run_bind, run_newObj, Sem.run_pure, Result.andThen_ok, hxl]
          rfl
      · omega
      · exact hls _ (by rw [← hxs]; exact List.mem_map.2 ⟨x, hx, rfl⟩)
      · rw [← hsh.1, hlen, repeatL_length, hzl]
      · have h3 : ls[i]? = some (e' x) := by rw [← hxs, List.getElem?_map, h1]; rfl
        have h4 := hcs i _ j c h3 h2
        have h5 := (List.getElem?_eq_some_iff.1 h4).1
        exact ⟨xs'[i * (T e).size + j]'(by rw [← hsh.1]; exact h5), by simp, hsh.2 _ c _ h4 (by simp)⟩
    · exact h.elim
  · -- load
    rename_i t x
    obtain ⟨ht, h⟩ := known_spec h
    obtain ⟨c, h, hc⟩ := strip_spec hg h (hev x)
    obtain ⟨val, v, rd, hk, hrun, hv⟩ := load_sound hT hg hr h ht hc
    exact ⟨_, _, _, hk, pure_does hr (exec_value hrun) hv⟩
  · -- store
    rename_i t x y
    obtain ⟨ht, h⟩ := known_spec h
    obtain ⟨c, h, hc⟩ := strip_spec hg h (hev x)
    obtain ⟨d, h, hd⟩ := strip_spec hg h (hev y)
    obtain ⟨wr, rd, w', hk, hrun, ha⟩ := store_sound hT hr h ht hc hd
    exact ⟨_, _, _, hk, .skip (exec_skip hrun) ha⟩
  · -- nilCheck
    rename_i x
    obtain ⟨c, h, hc⟩ := strip_spec hg h (hev x)
    split at h
    · obtain ⟨ad, e⟩ := isPtr_sound hc rfl
      refine ⟨_, _, _, h, pure_does hr (v := a.eval x) ?_ hc⟩
      simp [execOp, e]
    · obtain ⟨ad, e⟩ := isPtr_sound hc rfl
      refine ⟨_, _, _, h, pure_does hr (v := a.eval x) ?_ hc⟩
      simp [execOp, e]
    · obtain ⟨ad, e⟩ := isPtr_sound hc rfl
      refine ⟨_, _, _, h, pure_does hr (v := a.eval x) ?_ hc⟩
      simp [execOp, e]
    · exact h.elim
  · -- binOp
    rename_i op t x y t'
    obtain ⟨c, h, hc⟩ := strip_spec hg h (hev x)
    obtain ⟨d, h, hd⟩ := strip_spec hg h (hev y)
    obtain ⟨val, v, hk, hrun, hv⟩ := binE_sound hT hg x y h hc hd
    exact ⟨_, _, _, hk, pure_does hr (exec_value hrun) hv⟩
  · -- unOp
    rename_i op t x
    obtain ⟨c, h, hc⟩ := strip_spec hg h (hev x)
    unfold unE at h
    split at h
    · split at h
      · rename_i b
        have e := bool_inv hc
        refine ⟨_, _, _, h, pure_does hr (v := .bool (!b)) ?_ .bool⟩
        simp [execOp, e, Op.unary]
      · exact h.elim
    · split at h
      · rename_i k n
        obtain ⟨r, h1, h2⟩ := h
        have e := int_inv hc
        refine ⟨_, _, _, h2, pure_does hr (v := .int k r) ?_ .int⟩
        have := ob_true hg h1
        simp only [Int.zero_sub] at this
        simp [execOp, e, Op.unary, Op.intArith, this]
      · exact h.elim
    · exact h.elim
  · -- convert
    rename_i src dst' x
    obtain ⟨ht, h⟩ := known_spec h
    obtain ⟨c, h, hc⟩ := strip_spec hg h (hev x)
    obtain ⟨val, rd, v, hk, hrun, hv⟩ := conv_run hT hg hr h ht hc
    exact ⟨_, _, _, hk, pure_does hr (exec_value hrun) hv⟩
  · -- makeFunc
    rename_i fn first captured
    obtain ⟨as, h, has⟩ := strips_spec hg h (args_rel hev first)
    obtain ⟨cs, h, hcs⟩ := strips_spec hg h (args_rel hev captured)
    refine ⟨_, _, _, h, pure_does hr (v := .func fn (first.map a.eval) (captured.map a.eval)) ?_ ?_⟩
    · simp [execOp, Instr.makeFunc]
    · exact .fn (av := (first.map a.eval).toList) (cv := (captured.map a.eval).toList) has.1 hcs.1 has.2 hcs.2
  · -- fieldAddr
    rename_i t x i
    obtain ⟨c, h, hc⟩ := strip_spec hg h (hev x)
    split at h
    · rename_i ft off e
      obtain ⟨ht, h⟩ := known_spec h
      split at h
      · exact h.elim
      · rename_i hz
        obtain ⟨ad, q, hk, e', hsp, hv⟩ := offE_sound h hc
        refine ⟨_, _, _, hk, pure_does hr (exec_value ?_) hv⟩
        rw [e']
        exact fieldAt_run hT e ht (by rw [hz]; omega) hsp
    · exact h.elim
  · -- field
    rename_i t x i
    obtain ⟨c, h, hc⟩ := strip_spec hg h (hev x)
    split at h
    · split at h
      · rename_i ft off e
        obtain ⟨p, q, rfl, hl, h⟩ := skip_spec h
        obtain ⟨ht, h⟩ := known_spec h
        obtain ⟨q1, q2, rfl, hl', h⟩ := cut_spec h
        obtain ⟨val, hk, hv⟩ := wrap_spec h
        rw [← List.append_assoc] at hc
        obtain ⟨v, hrun, hv⟩ := field_run hT e ht hc hl hl' hv
        exact ⟨_, _, _, hk, pure_does hr (exec_value hrun) hv⟩
      · exact h.elim
    · exact h.elim
  · -- indexAddr
    rename_i t x i
    obtain ⟨c, h, hc⟩ := strip_spec hg h (hev x)
    obtain ⟨d, h, hd⟩ := strip_spec hg h (hev i)
    split at h
    · rename_i k i'
      obtain ⟨val, rd, v, hk, hrun, hv⟩ := indexAddr_run (k := k) hT hr hg h hc
      refine ⟨_, _, _, hk, pure_does hr (exec_value ?_) hv⟩
      rw [int_inv hd]
      exact hrun
    · exact h.elim
  · -- index
    rename_i t x i
    obtain ⟨c, h, hc⟩ := strip_spec hg h (hev x)
    obtain ⟨d, h, hd⟩ := strip_spec hg h (hev i)
    split at h
    · rename_i k i'
      obtain ⟨val, v, hk, hrun, hv⟩ := index_run (k := k) hT hg h hc
      refine ⟨_, _, _, hk, pure_does hr (exec_value ?_) hv⟩
      rw [int_inv hd]
      exact hrun
    · exact h.elim
  · -- slice
    rename_i t x lo hi mx
    obtain ⟨c, h, hc⟩ := strip_spec hg h (hev x)
    obtain ⟨val, rd, hk, v, hrun, hv⟩ := slice_run hT hg hr hev h hc
    exact ⟨_, _, _, hk, pure_does hr (exec_value hrun) hv⟩
  · -- makeSlice
    rename_i t l c
    split at h
    · rename_i e hte
      obtain ⟨hke, h⟩ := known_spec h
      obtain ⟨lv, h, hl⟩ := strip_spec hg h (hev l)
      obtain ⟨cv, h, hc⟩ := strip_spec hg h (hev c)
      obtain ⟨val, wr, rd, hk, v', w', hrun, ha⟩ := make_run hT hg hr hte hke h (fun v wr rd hk o ho => hK _ _ _ hk _ ho) (hph (by simp [news])) hl hc
      exact ⟨_, _, _, hk, .value (exec_value hrun) ha⟩
    · exact h.elim
  · -- extract
    rename_i x i
    obtain ⟨c, h, hc⟩ := strip_spec hg h (hev x)
    split at h
    · rename_i vs
      split at h
      · rename_i v e
        obtain ⟨ws, e', hws⟩ := hc.of_tup
        have hi := (List.getElem?_eq_some_iff.1 e).1
        have hi' : i < ws.length := by rw [← hws.1]; exact hi
        refine ⟨_, _, _, h, pure_does hr (v := ws[i]) ?_ (hws.2 i v _ e (by simp [hi']))⟩
        simp [execOp, e', Instr.extract, hi']
      · exact h.elim
    · exact h.elim
  · -- call
    rename_i c
    obtain ⟨callee, args, argTypes⟩ := c
    simp only at h
    split at h
    · -- len
      split at h
      · split at h
        · rename_i x ea _ t et
          obtain ⟨c, h, hc⟩ := strip_spec hg h (hev x)
          obtain ⟨n', rd, hk, hrun⟩ := len_run hT hg hr h hc ty
          refine ⟨_, _, _, hk, pure_does hr (v := .int .i64 n') ?_ .int⟩
          have e1 : args = #[x] := by rw [← Array.toArray_toList (xs := args), ea]
          have e2 : argTypes = #[t] := by rw [← Array.toArray_toList (xs := argTypes), et]
          subst e1 e2
          simp [execOp, resolve, invoke, builtin, hrun]
        · exact h.elim
      · exact h.elim
    · -- append
      split at h
      · rename_i s x ea
        split at h
        · rename_i t t' et
          split at h
          · rename_i e hte
            obtain ⟨hke, ht, h2⟩ := known_spec h
            have htt := Nat.eq_of_beq_eq_true ht
            subst htt
            obtain ⟨sv, h3, hs⟩ := strip_spec hg h2 (hev s)
            obtain ⟨xv, h4, hx⟩ := strip_spec hg h3 (hev x)
            obtain ⟨val, wr, rd, hk, v', w', hrun, ha⟩ := append_run hT hg hr hte hke h4 (fun v wr rd hk o ho => hK _ _ _ hk _ ho) (hph (by simp [news])) hs hx ty
            refine ⟨_, _, _, hk, .value (v := v') (w' := w') ?_ ha⟩
            have e1 : args = #[s, x] := by rw [← Array.toArray_toList (xs := args), ea]
            have e2 : argTypes = #[t, t] := by rw [← Array.toArray_toList (xs := argTypes), et]
            subst e1 e2
            simp [execOp, resolve, invoke, builtin, hrun]
          · exact h.elim
        · exact h.elim
      · exact h.elim
    · -- min
      split at h
      · rename_i x y ea
        obtain ⟨xv, h, hx⟩ := strip_spec hg h (hev x)
        obtain ⟨yv, h, hy⟩ := strip_spec hg h (hev y)
        obtain ⟨val, v, hk, hrun, hv⟩ := min_run (P := P) (w := w) h hx hy argTypes ty
        refine ⟨_, _, _, hk, pure_does hr (v := v) ?_ hv⟩
        have e1 : args = #[x, y] := by rw [← Array.toArray_toList (xs := args), ea]
        subst e1
        simp only [cond_false] at hrun
        simp [execOp, resolve, invoke, builtin, hrun]
      · exact h.elim
    · -- max
      split at h
      · rename_i x y ea
        obtain ⟨xv, h, hx⟩ := strip_spec hg h (hev x)
        obtain ⟨yv, h, hy⟩ := strip_spec hg h (hev y)
        obtain ⟨val, v, hk, hrun, hv⟩ := min_run (P := P) (w := w) h hx hy argTypes ty
        refine ⟨_, _, _, hk, pure_does hr (v := v) ?_ hv⟩
        have e1 : args = #[x, y] := by rw [← Array.toArray_toList (xs := args), ea]
        subst e1
        simp only [cond_true] at hrun
        simp [execOp, resolve, invoke, builtin, hrun]
      · exact h.elim
    · -- a Go function
      rename_i f
      obtain ⟨fv, h, hfv⟩ := strip_spec hg h (hev f)
      split at h
      · rename_i k first captured
        obtain ⟨av, cv, e, hav, hcv⟩ := fn_inv hfv
        obtain ⟨as, h, has⟩ := strips_spec hg h (args_rel hev args)
        obtain ⟨hcl, r, h1, h2⟩ := h
        have hall := ((hav.app has).app hcv).shut hcl
        have hb : ∀ b, SX X E hp b → b < w.heap.size := fun b hb => hb.elim (hr.xlt b) (fun h => hr.own_lt h)
        have hi := ob_true hg h1 w (SX X E hp) _ hb hall.1 hall.2
        refine ⟨_, _, _, h2, .inv (f := k) (args := ⟨av ++ (args.map a.eval).toList ++ cv⟩) ?_ ?_⟩
        · simp only [execOp, resolve, e, Deferred.ofValue, invoke]
          simp only [Sem.run_bind, Sem.run_pure, Result.andThen_ok]
          congr 2
          apply Array.ext'
          simp
        · rcases hi with ⟨h1, h2⟩ | ⟨v, w', h1, h2⟩ | ⟨row, as, w', h1, h2⟩
          · exact .inl ⟨h1, h2.mono fun e w' ⟨v, e1, hf, hv⟩ => ⟨v, e1, .grown hr hf hv.open⟩⟩
          · exact .inr (.inl ⟨v, w', h1, .grown hr h2.1 h2.2.open⟩)
          · exact .inr (.inr ⟨row, as, w', h1, h2.mono fun v w' ⟨hf, hv⟩ => .grown hr hf hv.open⟩)
      · exact h.elim
    · exact h.elim
  · exact h.elim
end
end Go.Mir
