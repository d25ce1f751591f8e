/- That each operation does what 'opEff' says: all together. No condition. -/
import Derived.Test.YtndjmkglbcbddaaDoorMirJ
set_option linter.unusedVariables false
namespace Go.Mir

section
variable {P : Program} {T : Nat → TI} {g : Option Bool} {w : World} {X : Nat → Prop} {m : Nat} {E : List Slot} {hp : List Obj} {a : Act} {ev : Operand → AV} {o : Oper}

theorem nums_spec : ∀ {l : List AV} {K : List Int → Prop}, numsE l K → ∃ ns, K ns ∧ l = ns.map (fun n => AV.int .u8 n)
  | [], K, h => ⟨[], h, rfl⟩
  | c :: cs, K, h => by
    simp only [numsE] at h
    split at h
    · obtain ⟨ns, h1, h2⟩ := nums_spec (l := cs) h
      exact ⟨_, h1, by rw [h2]; rfl⟩
    · exact h.elim
theorem byteSl_spec (hT : TOk P T) {src : Nat} {p : Prop} (h : byteSl T src p) : p ∧ ∃ e, P.underlying src = some (.slice e) ∧ P.underlying e = some (.int .u8) := by
  unfold byteSl at h
  split at h
  · rename_i e he
    split at h
    · rename_i he2
      obtain ⟨d, hu, hk⟩ := hT.desc (t := src) (by rw [he]; simp)
      rw [he] at hk
      cases d <;> first | exact hk.elim | skip
      simp only [KOk] at hk
      rw [hk] at hu
      obtain ⟨d2, hu2, hk2⟩ := hT.desc (t := e) (by rw [he2]; simp)
      rw [he2] at hk2
      cases d2 <;> first | exact hk2.elim | skip
      simp only [KOk] at hk2
      rw [hk2] at hu2
      exact ⟨h, e, hu, hu2⟩
    · exact h.elim
  · exact h.elim
/-- Cells of bytes, as a string. -/
theorem bytes_run {src dst e : Nat} (hs : P.underlying src = some (.slice e)) (he : P.underlying e = some (.int .u8)) (hd : P.underlying dst = some .string) {a : Option Addr} {cap : Nat} {ns : List Int}
    (h : 0 < ns.length → ∃ b o, a = some ⟨b, o, none⟩ ∧ ∀ i, i < ns.length → w.cell? ⟨b, o + i, none⟩ = some (.int .u8 (ns.getD i 0))) :
    (convert src dst (.slice a ns.length cap)).run P w = .ok (.string (strOfNums ns)) w := by
  cases ns with
  | nil =>
    cases a with
    | none => rw [List.length_nil, run_convert_bytes_nil w src e hs he 0 cap dst hd]; rfl
    | some a => rw [List.length_nil, run_convert_bytes_string w src dst e _ 0 cap hs he hd]; simp [Conv.bytesToString, loadCells, loadCellsFrom, strOfNums]; rfl
  | cons n ns =>
    obtain ⟨b, o, rfl, hc⟩ := h (by simp)
    exact run_convert_bytes_arg w src e hs he b o _ cap (n :: ns) rfl hc dst hd

theorem conv_run (hT : TOk P T) (hg : g = none ∨ g = some true) (hr : HR w X m E hp) {src dst : Nat} {x : AV} {vx : Value} {K : AV → List Nat → Prop} (h : convE T src dst x hp g K) (hs : (T src).k ≠ .other) (hx : VR w (SX X E hp) E x vx) :
    ∃ val rd v, K val rd ∧ (convert src dst vx).run P w = .ok v w ∧ VR w (SX X E hp) E val v := by
  obtain ⟨ds, hus, hks⟩ := hT.desc hs
  unfold convE at h
  split at h
  · rename_i k e
    obtain ⟨d, hu, hk⟩ := hT.desc (t := dst) (by rw [e]; simp)
    rw [e] at hk
    cases d <;> first | exact hk.elim | skip
    rename_i k'
    simp only [KOk] at hk
    rw [hk] at hu
    split at h
    · obtain ⟨r, h1, h2⟩ := h
      cases hx
      exact ⟨_, _, _, h2, by simp [convert, run_underlying hus, run_underlying hu, Conv.intToInt, ob_true hg h1], .int⟩
    · exact h.elim
  · rename_i e
    obtain ⟨d, hu, hk⟩ := hT.desc (t := dst) (by rw [e]; simp)
    rw [e] at hk
    cases d <;> first | exact hk.elim | skip
    split at h
    · cases hx
      exact ⟨_, _, _, h, by simp [convert, run_underlying hus, run_underlying hu], .str⟩
    · obtain ⟨h, e, h1, h2⟩ := byteSl_spec hT h
      cases hx
      exact ⟨_, _, _, h, bytes_run (ns := []) h1 h2 hu (fun h => absurd h (by simp)), .str⟩
    · rename_i j off n cap
      obtain ⟨h, e, h1, h2⟩ := byteSl_spec hT h
      split at h
      · rename_i cs hj
        obtain ⟨p, q, rfl, hl, h⟩ := skip_spec h
        obtain ⟨p2, q2, rfl, hl2, h⟩ := cut_spec h
        obtain ⟨ns, hk, hns⟩ := nums_spec h
        cases hx with
        | @csl _ _ _ _ _ b s hE hkk hb =>
          have hn : ns.length = n := by rw [← hl2, hns]; simp
          subst hn
          refine ⟨_, _, _, hk, bytes_run h1 h2 hu (fun _ => ⟨b, off, rfl, fun i hi => ?_⟩), .str⟩
          obtain ⟨_, b', vs, t, h3, h4, h5, h6⟩ := hr.obj j _ s hj hE
          rw [hb] at h3
          cases h3
          have hlt : off + i < vs.length := by rw [← h5, hns]; simp; omega
          have hcell := h6 (off + i) (.int .u8 (ns.getD i 0)) vs[off + i] (by
            rw [List.getElem?_append_right (by omega), hl, List.getElem?_append_left (by rw [hns]; simp; omega), hns]
            rw [show off + i - off = i by omega, List.getElem?_map, List.getElem?_eq_getElem hi]
            simp [List.getD_eq_getElem?_getD, hi]) (by simp [hlt])
          simp only [World.cell?, h4]
          rw [int_inv hcell |>.symm]
          simp [hlt]
      · exact h.elim
    · rename_i α enc sz d xs
      obtain ⟨h, e, h1, h2⟩ := byteSl_spec hT h
      obtain ⟨h0, ns, hns, hk⟩ := h
      have h0 := Nat.eq_of_beq_eq_true h0
      subst h0
      have hlen : xs.length = ns.length := by simpa using congrArg List.length hns
      cases hx with
      | @sl _ _ _ _ _ _ a n cap ad ff hnn hm hcp ha hsp hs hbb hsz hc hvv =>
        rw [hlen] at hnn
        subst hnn
        refine ⟨_, _, _, hk, bytes_run h1 h2 hu (fun h0 => ?_), .str⟩
        obtain ⟨bk, o, sp⟩ := ad
        simp only at hsp
        subst hsp
        refine ⟨bk, o, ha h0, fun i hi => ?_⟩
        have h3 : (xs.map enc)[i]? = some [.int .u8 (ns.getD i 0)] := by
          rw [hns, List.getElem?_map, List.getElem?_eq_getElem hi]
          simp [List.getD_eq_getElem?_getD, hi]
        rw [List.getElem?_map, Option.map_eq_some_iff] at h3
        obtain ⟨y, hy, hye⟩ := h3
        have h4 := hc i 0 hi (by omega)
        have h5 := hvv i y 0 _ hy (by rw [hye]; rfl)
        rw [int_inv h5] at h4
        rw [show o + i = o + (i * 1 + 0) by omega]
        exact h4
    · rename_i j ver
      obtain ⟨h, e, h1, h2⟩ := byteSl_spec hT h
      split at h
      · rename_i α enc sz d xs ver' hj
        obtain ⟨hv, h0, ns, hns, hk⟩ := h
        have hv := ob_true hg hv
        have h0 := Nat.eq_of_beq_eq_true h0
        subst h0 hv
        have hlen : xs.length = ns.length := by simpa using congrArg List.length hns
        cases hx with
        | @rowf _ _ _ s a n cap hE hk2 hle hh =>
          obtain ⟨k1, k2, k3, k4, k5, k6, k7, k8, k9⟩ := hr.obj j _ s hj hE
          obtain ⟨rfl, rfl, q1, q2⟩ := hh k2
          rw [k4, hlen]
          refine ⟨_, _, _, hk, bytes_run h1 h2 hu (fun h0 => ?_), .str⟩
          cases hbs : s.b with
          | none => have := k7 hbs; omega
          | some b =>
            obtain ⟨vs', t, e1, e2, e3⟩ := k9 b hbs
            refine ⟨b, 0, q1 b hbs, fun i hi => ?_⟩
            have h3 : (xs.map enc)[i]? = some [.int .u8 (ns.getD i 0)] := by
              rw [hns, List.getElem?_map, List.getElem?_eq_getElem hi]
              simp [List.getD_eq_getElem?_getD, hi]
            rw [List.getElem?_map, Option.map_eq_some_iff] at h3
            obtain ⟨y, hy, hye⟩ := h3
            obtain ⟨u, hu', hvr⟩ := e3 i y 0 _ hy (by rw [hye]; rfl)
            rw [int_inv hvr] at hu'
            simp only [World.cell?, e1, Nat.zero_add]
            simpa using hu'
      · exact h.elim
    · exact h.elim
  · exact h.elim

theorem len_run (hT : TOk P T) (hg : g = none ∨ g = some true) (hr : HR w X m E hp) {t : Nat} {x : AV} {vx : Value} {K : Int → List Nat → Prop} (h : lenE (T t).k x hp g K) (hx : VR w (SX X E hp) E x vx) (ty : TypeId) :
    ∃ n rd, K n rd ∧ (Builtin.len_ #[t] ty #[vx]).run P w = .ok (.int .i64 n) w := by
  have hk0 : (T t).k ≠ .other := by intro e; rw [e] at h; exact h.elim
  obtain ⟨d, hu, hk⟩ := hT.desc hk0
  unfold lenE at h
  split at h
  · rename_i e
    rw [e] at hk
    cases d <;> first | exact hk.elim | skip
    split at h
    · cases hx
      exact ⟨_, _, h, by simp [Builtin.len_, run_underlying hu, goInt]⟩
    · exact h.elim
  · rename_i e
    rw [e] at hk
    cases d <;> first | exact hk.elim | skip
    split at h
    · cases hx with
      | sl ad f hn hm hcp ha hsp hs hb hsz hc hv => exact ⟨_, _, h, by simp [Builtin.len_, run_underlying hu, goInt, hn]⟩
    · cases hx
      exact ⟨_, _, h, by simp [Builtin.len_, run_underlying hu, goInt]⟩
    · split at h
      · rename_i hj
        obtain ⟨h1, h2⟩ := h
        have h1 := ob_true hg h1
        subst h1
        cases hx with
        | @rowf _ _ _ s a n cap hE hk' hle hh =>
          obtain ⟨_, r1, r2, r3, r4, r5, r6, r7⟩ := hr.obj _ _ s hj hE
          obtain ⟨e1, _⟩ := hh r1
          exact ⟨_, _, h2, by simp [Builtin.len_, run_underlying hu, goInt, e1, r3]⟩
      · exact h.elim
    · exact h.elim
  · rename_i n el e
    rw [e] at hk
    cases d <;> first | exact hk.elim | skip
    simp only [KOk] at hk
    rw [hk.1, hk.2] at hu
    exact ⟨_, _, h, by simp [Builtin.len_, run_underlying hu, goInt]⟩
  · rename_i e
    rw [e] at hk
    cases d <;> first | exact hk.elim | skip
    split at h
    · split at h
      · rename_i hj
        cases hx with
        | @mp _ _ b s hE hk' hb =>
          obtain ⟨_, b', ents, clock, r1, r2, r3, r4, r5, r6, r7⟩ := hr.obj _ _ s hj hE
          rw [hb] at r1
          cases r1
          refine ⟨_, _, h, ?_⟩
          have : (getObj b).run P w = .ok (.map ⟨ents⟩ clock) w := by simp [getObj, Sem.run, r2]
          simp [Builtin.len_, run_underlying hu, goInt, this, r3]
      · exact h.elim
    · cases hx with
      | @fmap _ _ _ _ _ _ b ents clock hs hb hl hbn hnd hk' hv =>
        refine ⟨_, _, h, ?_⟩
        have : (getObj b).run P w = .ok (.map ⟨ents⟩ clock) w := by simp [getObj, Sem.run, hb]
        simp [Builtin.len_, run_underlying hu, goInt, this, hl]
    · cases hx
      exact ⟨_, _, h, by simp [Builtin.len_, run_underlying hu, goInt]⟩
    · exact h.elim
  · exact h.elim

theorem args_rel (hev : ∀ x, VR w (SX X E hp) E (ev x) (a.eval x)) (xs : Array Operand) : VRL w (SX X E hp) E (xs.toList.map ev) (xs.map a.eval).toList := by
  refine ⟨by simp, fun j c v h1 h2 => ?_⟩
  simp only [List.getElem?_map, Option.map_eq_some_iff] at h1
  simp only [Array.toList_map, List.getElem?_map, Option.map_eq_some_iff] at h2
  obtain ⟨x, e1, rfl⟩ := h1
  obtain ⟨y, e2, rfl⟩ := h2
  rw [e1] at e2
  cases e2
  exact hev x

theorem groups_spec : ∀ {sz n : Nat} {cs : List AV} {K : List (List AV) → Prop}, groups sz n cs K → ∃ ls, K ls ∧ ls.length = n ∧ (∀ l ∈ ls, l.length = sz) ∧ ∀ i l j c, ls[i]? = some l → l[j]? = some c → cs[i * sz + j]? = some c
  | sz, 0, cs, K, h => ⟨[], h, rfl, fun _ h => (by cases h), fun i l j c h => by simp at h⟩
  | sz, n + 1, cs, K, h => by
    simp only [groups] at h
    obtain ⟨p, q, rfl, hl, h⟩ := cut_spec h
    obtain ⟨p', q', e, hl', h⟩ := skip_spec h
    obtain ⟨ls, hk, hn, hls, hcs⟩ := groups_spec h
    have hpq : p' = p ∧ q' = q := by
      have := List.append_inj e (by rw [hl, hl'])
      exact ⟨this.1.symm, this.2.symm⟩
    refine ⟨p :: ls, hk, by simp [hn], fun l hm => ?_, fun i l j c h1 h2 => ?_⟩
    · rcases List.mem_cons.1 hm with rfl | hm
      · exact hl
      · exact hls l hm
    · cases i with
      | zero =>
        simp at h1
        subst h1
        have hj := (List.getElem?_eq_some_iff.1 h2).1
        rw [Nat.zero_mul, Nat.zero_add, List.getElem?_append_left hj]
        exact h2
      | succ i =>
        have := hcs i l j c (by simpa using h1) h2
        rw [hpq.2] at this
        rw [show (i + 1) * sz + j = sz + (i * sz + j) by rw [Nat.add_mul]; omega, List.getElem?_append_right (by omega), hl]
        simpa using this

theorem repeatL_at (z : List AV) : ∀ (n i : Nat), i < n * z.length → (repeatL z n)[i]? = z[i % z.length]?
  | 0, i, h => by simp at h
  | n + 1, i, h => by
    simp only [repeatL]
    by_cases hi : i < z.length
    · rw [List.getElem?_append_left hi, Nat.mod_eq_of_lt hi]
    · rw [List.getElem?_append_right (by omega), repeatL_at z n (i - z.length) (by rw [Nat.add_mul, Nat.one_mul] at h; omega)]
      rw [← Nat.mod_eq_sub_mod (by omega)]
theorem repeatL_length (z : List AV) : ∀ n, (repeatL z n).length = n * z.length
  | 0 => by simp [repeatL]
  | n + 1 => by simp [repeatL, repeatL_length z n, Nat.add_mul]; omega
theorem repeat_rel {S : Nat → Prop} {z : List AV} {vs : List Value} (h : VRL w S E z vs) (n : Nat) :
    VRL w S E (repeatL z n) ((Array.range (n * z.length)).map (fun i => (⟨vs⟩ : Array Value)[i % (⟨vs⟩ : Array Value).size]!)).toList := by
  refine ⟨by simp [repeatL_length], fun j c v h1 h2 => ?_⟩
  have hj : j < n * z.length := by have := (List.getElem?_eq_some_iff.1 h1).1; rwa [repeatL_length] at this
  rw [repeatL_at z n j hj] at h1
  have hz : 0 < z.length := by
    rcases Nat.eq_zero_or_pos z.length with h0 | h0
    · rw [h0] at hj; simp at hj
    · exact h0
  have hm : j % z.length < vs.length := by rw [← h.1]; exact Nat.mod_lt _ hz
  simp [hj] at h2
  rw [← h.1] at h2
  have h3 : vs[j % z.length]? = some v := by
    rw [← h2, List.getElem?_eq_getElem hm]
    congr 1
  exact h.2 _ c v h1 h3
end
end Go.Mir
