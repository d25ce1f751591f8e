/- That each operation does what 'opEff' says: the rest, and all together. No condition. -/
import Derived.Test.YtndjmkglbcbddaaDoorMirH
set_option linter.unusedVariables false
namespace Go.Mir

section
variable {P : Program} {T : Nat → TI} {g : Option Bool} {w : World} {X : Nat → Prop} {m : Nat} {E : List Slot} {hp : List Obj} {a : Act} {ev : Operand → AV} {o : Oper}

/-- What kinds of values a type has, from the table. -/
theorem TOk.desc (hT : TOk P T) {t : Nat} (hk : (T t).k ≠ .other) : ∃ d, P.underlying t = some d ∧ KOk d (T t).k :=
  let ⟨_, d, _, _, hu, hk, _⟩ := hT t hk; ⟨d, hu, hk⟩

theorem fieldAt_run (hT : TOk P T) {t i ft off : Nat} (h : fieldOff (T t) i = some (ft, off)) (hft : (T ft).k ≠ .other) (hz : (T ft).size ≠ 0) {ad : Addr} (hsp : ad.spot = none) :
    (Instr.fieldAt t (.pointer (some ad)) i).run P w = .ok (.pointer (some ⟨ad.block, ad.off + off, none⟩)) w := by
  unfold fieldOff at h
  split at h
  · rename_i fs e
    obtain ⟨d, hu, hk⟩ := hT.desc (t := t) (by rw [e]; simp)
    obtain ⟨fi, fd, fz, hfi, hfu, hfk, hfs, hfb, hfz, hfo⟩ := hT ft hft
    rw [e] at hk
    cases d <;> first | exact hk.elim | skip
    rename_i fs'
    simp only [KOk] at hk
    subst hk
    simp only [List.getElem?_map, Option.map_eq_some_iff] at h
    obtain ⟨f, hf, he⟩ := h
    cases he
    have hf' : fs'[i]? = some f := by simpa using hf
    obtain ⟨b, o, sp⟩ := ad
    simp only at hsp
    subst hsp
    have hsz : fi.size ≠ 0 := by rw [hfs]; exact hz
    have : (fieldPlace ⟨b, o, none⟩ f).run P w = .ok ⟨b, o + f.offset, none⟩ w := by
      simp only [fieldPlace, Sem.run_bind, run_sizeOf hfi, Result.andThen_ok, if_neg hsz, Sem.run_pure, addr_add]
    simp [Instr.fieldAt, run_underlying hu, hf', Instr.sureAddr, this]
  · cases h

theorem part_run (hT : TOk P T) {t : Nat} (ht : (T t).k ≠ .other) {S : Nat → Prop} {p q r : List AV} {vs : List Value} (h : VRL w S E (p ++ q ++ r) vs) (hl : q.length = (T t).size) {off : Nat} (hp' : p.length = off) {val : AV}
    (hv : ((T t).k.agg = true ∧ val = .agg q) ∨ ((T t).k.agg = false ∧ q = [val])) : ∃ v, (part t ⟨vs⟩ off).run P w = .ok v w ∧ VR w S E val v := by
  obtain ⟨i, d, z, hi, hu, hk, hs, hby, hz, hzo⟩ := hT t ht
  obtain ⟨vpq, vr, rfl, hpq, hr⟩ := h.split
  obtain ⟨vp, vq, rfl, hpp, hq⟩ := hpq.split
  have e1 : vp.length = off := by rw [← hpp.1]; exact hp'
  rcases hv with ⟨ha, rfl⟩ | ⟨ha, rfl⟩
  · refine ⟨.agg ⟨vq⟩, ?_, hq.agg⟩
    simp only [part, Sem.run_bind, run_isAgg hu hk, Result.andThen_ok, ha, if_true, run_sizeOf hi, Sem.run_pure]
    congr 2
    have e2 : vq.length = i.size := by rw [← hq.1, hl, hs]
    apply Array.ext'
    simp only [Array.toList_extract, List.extract_eq_take_drop]
    rw [List.append_assoc, ← e1, List.drop_left, show vp.length + i.size - vp.length = vq.length by omega, List.take_left]
  · obtain ⟨v, rfl, hv⟩ : ∃ v, vq = [v] ∧ VR w S E val v := by
      match vq, hq with
      | [v], hq => exact ⟨v, rfl, hq.2 0 val v rfl rfl⟩
      | [], hq => have := hq.1; simp at this
      | _ :: _ :: _, hq => have := hq.1; simp at this
    refine ⟨v, ?_, hv⟩
    simp only [part, Sem.run_bind, run_isAgg hu hk, Result.andThen_ok, ha, Bool.false_eq_true, if_false]
    have : (⟨vp ++ [v] ++ vr⟩ : Array Value)[off]? = some v := by simp [← e1]
    rw [this]
    rfl

theorem field_run (hT : TOk P T) {t i ft off : Nat} (h : fieldOff (T t) i = some (ft, off)) (hft : (T ft).k ≠ .other) {S : Nat → Prop} {p q r : List AV} {x : Value} (hx : VR w S E (.agg (p ++ q ++ r)) x) (hp' : p.length = off) (hl : q.length = (T ft).size) {val : AV}
    (hv : ((T ft).k.agg = true ∧ val = .agg q) ∨ ((T ft).k.agg = false ∧ q = [val])) : ∃ v, (Instr.field t x i).run P w = .ok v w ∧ VR w S E val v := by
  unfold fieldOff at h
  split at h
  · rename_i fs e
    obtain ⟨d, hu, hk⟩ := hT.desc (t := t) (by rw [e]; simp)
    rw [e] at hk
    cases d <;> first | exact hk.elim | skip
    rename_i fs'
    simp only [KOk] at hk
    subst hk
    simp only [List.getElem?_map, Option.map_eq_some_iff] at h
    obtain ⟨f, hf, he⟩ := h
    cases he
    have hf' : fs'[i]? = some f := by simpa using hf
    obtain ⟨vs, rfl, hvs⟩ := hx.of_agg
    obtain ⟨v, hrun, hv⟩ := part_run hT hft hvs hl hp' hv
    refine ⟨v, ?_, hv⟩
    simp [Instr.field, run_underlying hu, hf', asAgg, hrun]
  · cases h

theorem index_run (hT : TOk P T) {t : Nat} {x : AV} {vx : Value} {k : IntKind} {i : Int} {K : AV → Prop} (hg : g = none ∨ g = some true) {S : Nat → Prop} (h : indexE T t x i g K) (hx : VR w S E x vx) :
    ∃ val v, K val ∧ (Instr.index t vx (.int k i)).run P w = .ok v w ∧ VR w S E val v := by
  unfold indexE at h
  split at h
  · rename_i s
    split at h
    case h_2 => exact h.elim
    rename_i hst
    obtain ⟨h1, h2⟩ := h
    replace h1 := ob_true hg h1
    cases hx
    obtain ⟨d, hu, hk⟩ := hT.desc (t := t) (by rw [hst]; simp)
    rw [hst] at hk
    cases d <;> first | exact hk.elim | skip
    refine ⟨_, _, h2, ?_, .int⟩
    have hlt : i.toNat < s.size := by omega
    have hb : bat s i.toNat = ((s[i.toNat]'hlt).toNat : Int) := by simp [bat, hlt]
    have : s[i.toNat]? = some (s[i.toNat]'hlt) := by simp [hlt]
    simp [Instr.index, asIntOf, run_underlying hu, h1.1, this, hb]
  · rename_i cs
    split at h
    · rename_i n e hk'
      replace h := known_spec h
      obtain ⟨hke, mm, h1, h2, h⟩ := h
      replace h1 := ob_true hg h1
      replace h2 := ob_true hg h2
      subst h1
      obtain ⟨p, q, rfl, hl, h⟩ := skip_spec h
      obtain ⟨q1, q2, rfl, hl', h⟩ := cut_spec h
      obtain ⟨val, hkk, hv⟩ := wrap_spec h
      obtain ⟨d, hu, hk⟩ := hT.desc (t := t) (by rw [hk']; simp)
      rw [hk'] at hk
      cases d <;> first | exact hk.elim | skip
      simp only [KOk] at hk
      rw [hk.1, hk.2] at hu
      clear hk
      obtain ⟨ei, ed, ez, hei, heu, hek, hes, heb, hez, heo⟩ := hT e hke
      obtain ⟨vs, rfl, hvs⟩ := hx.of_agg
      rw [← List.append_assoc] at hvs
      obtain ⟨v, hrun, hv⟩ := part_run hT hke hvs hl' hl hv
      refine ⟨val, v, hkk, ?_, hv⟩
      have hc : (0 : Int) ≤ (mm : Int) ∧ (mm : Int) < (n : Int) := ⟨by omega, by omega⟩
      simp only [Instr.index, asIntOf, Sem.run_bind, Sem.run_pure, Result.andThen_ok, run_underlying hu]
      rw [if_pos hc]
      simp only [Int.toNat_natCast, Sem.run_bind, run_sizeOf hei, Result.andThen_ok, hes, hrun]
    · exact h.elim
  · exact h.elim

theorem indexAddr_run (hT : TOk P T) (hr : HR w X m E hp) {t : Nat} {x : AV} {vx : Value} {k : IntKind} {i : Int} {K : AV → List Nat → Prop} (hg : g = none ∨ g = some true) (h : indexAddrE T t x i hp g K) (hx : VR w (SX X E hp) E x vx) :
    ∃ val rd v, K val rd ∧ (Instr.indexAt t vx (.int k i)).run P w = .ok v w ∧ VR w (SX X E hp) E val v := by
  unfold indexAddrE at h
  split at h
  · rename_i e hk'
    replace h := known_spec h
    obtain ⟨hke, h⟩ := h
    obtain ⟨d, hu, hk⟩ := hT.desc (t := t) (by rw [hk']; simp)
    rw [hk'] at hk
    cases d <;> first | exact hk.elim | skip
    rename_i el
    simp only [KOk] at hk
    rw [hk] at hu
    clear hk
    obtain ⟨ei, ed, ez, hei, heu, hek, hes, heb, hez, heo⟩ := hT e hke
    split at h
    · rename_i α enc sz d xs
      obtain ⟨hsz, h1, h2⟩ := h
      replace h1 := ob_true hg h1
      cases hx with
      | @sl _ _ _ _ _ _ a n cap ad f hn hm hcp ha hsp hs hb hsz' hc hv =>
        have hi : i.toNat < xs.length := by omega
        have hin : i.toNat < n := by omega
        have hn0 : 0 < n := by omega
        have hx : xs[i.toNat]? = some (xs.getD i.toNat d) := by simp [List.getD_eq_getElem?_getD, hi]
        have hlen := hsz' _ (List.mem_of_getElem? hx)
        obtain ⟨b, o, sp⟩ := ad
        simp only at hsp
        subst hsp
        refine ⟨_, _, .pointer (some ⟨b, o + i.toNat * sz, none⟩), h2, ?_, ?_⟩
        · rw [ha hn0]
          have hc' : 0 ≤ i ∧ i < (n : Int) := by omega
          simp only [Instr.indexAt, asIntOf, Sem.run_bind, Sem.run_pure, Result.andThen_ok, run_underlying hu]
          rw [if_pos hc']
          simp only [Sem.run_bind, run_sizeOf hei, Result.andThen_ok, hes, ← hsz, Sem.run_pure, addr_add]
        · refine .fz (fun j => f i.toNat j) rfl (hs hn0) (hb hn0) (fun j hj => ?_) (fun j c hc' => hv i.toNat _ j c hx hc')
          have := hc i.toNat j hin (by omega)
          simpa [Nat.add_assoc] using this
    · split at h
      · rename_i α enc sz d xs ver' hj
        obtain ⟨hsz, h1, h2⟩ := h
        obtain ⟨rfl, h3, h4⟩ := ob_true hg h1
        cases hx with
        | @rowf _ j _ s a n cap hE hk hle hh =>
          obtain ⟨_, r1, r2, r3, r4, r5, r6, rmx, r7⟩ := hr.obj _ _ s hj hE
          obtain ⟨e1, e2, e3, e4⟩ := hh r1
          have hb : ∃ b, s.b = some b := by
            cases hsb : s.b with
            | none => have := r6 hsb; omega
            | some b => exact ⟨b, rfl⟩
          obtain ⟨b, hb⟩ := hb
          refine ⟨_, _, .pointer (some ⟨b, 0 + i.toNat * sz, none⟩), h2, ?_, .rloc hE hk hle rfl fun _ => ⟨b, hb, by simp [r2]⟩⟩
          rw [e3 b hb]
          have hc' : 0 ≤ i ∧ i < (n : Int) := by omega
          simp only [Instr.indexAt, asIntOf, Sem.run_bind, Sem.run_pure, Result.andThen_ok, run_underlying hu]
          rw [if_pos hc']
          simp only [Sem.run_bind, run_sizeOf hei, Result.andThen_ok, hes, ← hsz, Sem.run_pure, addr_add]
      · exact h.elim
    · exact h.elim
  · rename_i n e hk'
    replace h := known_spec h
    obtain ⟨hke, mm, h1, h2, h⟩ := h
    replace h1 := ob_true hg h1
    replace h2 := ob_true hg h2
    subst h1
    obtain ⟨d, hu, hk⟩ := hT.desc (t := t) (by rw [hk']; simp)
    rw [hk'] at hk
    cases d <;> first | exact hk.elim | skip
    simp only [KOk] at hk
    rw [hk.1, hk.2] at hu
    clear hk
    obtain ⟨ei, ed, ez, hei, heu, hek, hes, heb, hez, heo⟩ := hT e hke
    obtain ⟨ad, q, hk2, rfl, hsp, hv⟩ := offE_sound h hx
    refine ⟨q, _, _, hk2, ?_, hv⟩
    obtain ⟨b, o, sp⟩ := ad
    simp only at hsp
    subst hsp
    have hc' : (0 : Int) ≤ (mm : Int) ∧ (mm : Int) < (n : Int) := by omega
    simp only [Instr.indexAt, asIntOf, Instr.sureAddr, Sem.run_bind, Sem.run_pure, Result.andThen_ok, run_underlying hu]
    rw [if_pos hc']
    simp only [Sem.run_bind, run_sizeOf hei, Result.andThen_ok, hes, Sem.run_pure, addr_add, Int.toNat_natCast]
  · exact h.elim
end
end Go.Mir
