/- That each operation does what 'opEff' says. No condition. -/
import Derived.Test.YtndjmkglbcbddaaDoorMirG
import Derived.Laws.Strings
set_option linter.unusedVariables false
namespace Go.Mir

section
variable {P : Program} {T : Nat → TI} {g : Option Bool} {w : World} {X : Nat → Prop} {m : Nat} {E : List Slot} {hp : List Obj} {a : Act} {ev : Operand → AV} {o : Oper}

theorem known_spec {t : TI} {p : Prop} (h : known t p) : t.k ≠ .other ∧ p := by
  unfold known at h
  split at h
  · exact h.elim
  · rename_i hk; exact ⟨hk, h⟩

theorem boolOr_spec (hg : g = none ∨ g = some true) {S : Nat → Prop} {v : AV} {x : Value} {hyp : Prop} {K : Bool → Prop} (h : boolOr g v hyp K) (hx : VR w S E v x) : ∃ b, K b ∧ (hyp → x = .bool b) := by
  unfold boolOr at h
  split at h
  · exact ⟨_, h, fun _ => bool_inv hx⟩
  · obtain ⟨h1, h2⟩ := h
    refine ⟨_, h2, fun hh => ?_⟩
    cases hx with | when hx _ => exact bool_inv (hx (ob_true hg h1 hh))
  · exact h.elim

theorem pick_sound (hg : g = none ∨ g = some true) {S : Nat → Prop} {c x y : AV} {vc vx vy : Value} {K : AV → Prop} (h : pickE g c x y K) (hc : VR w S E c vc) (hx : VR w S E x vx) (hy : VR w S E y vy) :
    ∃ b r : Bool, K (.bool r) ∧ vc = .bool b ∧ (if b then vx else vy) = .bool r := by
  unfold pickE at h
  split at h
  · rename_i b
    obtain ⟨p, h, hp⟩ := boolOr_spec hg h hx
    obtain ⟨q, h, hq⟩ := boolOr_spec hg h hy
    refine ⟨b, _, h, bool_inv hc, ?_⟩
    cases b
    · simpa using hq rfl
    · simpa using hp rfl
  · rename_i d b
    obtain ⟨h1, h⟩ := h
    obtain ⟨p, h, hp⟩ := boolOr_spec hg h hx
    obtain ⟨q, h, hq⟩ := boolOr_spec hg h hy
    have hc' : vc = .bool b := by cases hc with | when hc _ => exact bool_inv (hc (ob_true hg h1))
    refine ⟨b, _, h, hc', ?_⟩
    cases b
    · simpa using hq rfl
    · simpa using hp rfl
  · exact h.elim

theorem offE_sound {S : Nat → Prop} {p : AV} {x : Value} {off : Nat} {K : AV → Prop} (h : offE p off K) (hx : VR w S E p x) : ∃ ad q, K q ∧ x = .pointer (some ad) ∧ ad.spot = none ∧ VR w S E q (.pointer (some ⟨ad.block, ad.off + off, none⟩)) := by
  unfold offE at h
  split at h
  · obtain ⟨pp, q, rfl, hl, hk⟩ := skip_spec h
    cases hx with
    | @fz _ _ ad f hsp hs hb hc hv =>
      refine ⟨ad, _, hk, rfl, hsp, .fz (fun j => f (off + j)) rfl hs hb (fun j hj => ?_) (fun j c hc' => hv (off + j) c (by rw [List.getElem?_append_right (by omega)]; rw [hl]; simpa using hc'))⟩
      have := hc (off + j) (by simp; omega)
      simpa [Nat.add_assoc] using this
  · cases hx with
    | loc hE hk hb => exact ⟨_, _, h, rfl, rfl, .loc hE hk hb⟩
  · cases hx with
    | @rloc _ _ _ _ _ s ad hE hk hle hsp hh =>
      refine ⟨ad, _, h, rfl, hsp, .rloc hE hk hle rfl fun hv => ?_⟩
      obtain ⟨b, hb, rfl⟩ := hh hv
      exact ⟨b, hb, by simp [Nat.add_assoc]⟩
  · exact h.elim

theorem pure_does (hr : HR w X m E hp) {val : AV} {v : Value} (hrun : (execOp a.eval o).run P w = .ok (.value v) w) (hv : VR w (SX X E hp) E val v) : Does P o a w (After w X m E hp val []) :=
  .value hrun (.same hr hv)

theorem int_beq (x y : Int) : (x == y) = decide (x = y) := by rw [Bool.eq_iff_iff]; simp
theorem eval_stringEq (x y : ByteArray) : (x.toList == y.toList) = decide (x = y) := by
  rw [Bool.eq_iff_iff]
  simp only [beq_iff_eq, decide_eq_true_eq]
  constructor
  · intro h
    have key : ∀ z : ByteArray, z.toList = z.data.toList := fun z => Go.ByteArray.toList_eq z
    rw [key, key] at h
    cases x
    cases y
    simp only [ByteArray.mk.injEq]
    exact Array.toList_inj.1 h
  · rintro rfl; rfl

theorem binInt_sound (hg : g = none ∨ g = some true) {S : Nat → Prop} {op : BinOp} {k : IntKind} {x y : Int} {K : AV → Prop} (h : binInt op k x y g K) (w : World) :
    ∃ val v, K val ∧ VR w S E val v ∧ (match op with | .add | .sub | .mul => Op.intArith op k x y | .quo | .rem => Op.intDiv op k x y | .and | .or | .xor | .andNot => Op.intBits op k x y | _ => Op.intCmp op x y : Sem Value).run P w = .ok v w ∧ op ≠ .shl ∧ op ≠ .shr := by
  unfold binInt at h
  split at h
  · obtain ⟨r, h1, h2⟩ := h
    exact ⟨_, _, h2, .int, by simp [Op.intArith, ob_true hg h1], by simp, by simp⟩
  · obtain ⟨r, h1, h2⟩ := h
    exact ⟨_, _, h2, .int, by simp [Op.intArith, ob_true hg h1], by simp, by simp⟩
  · obtain ⟨r, h1, h2⟩ := h
    exact ⟨_, _, h2, .int, by simp [Op.intArith, ob_true hg h1], by simp, by simp⟩
  · obtain ⟨h0, r, h1, h2⟩ := h
    exact ⟨_, _, h2, .int, by simp [Op.intDiv, ob_true hg h0, ob_true hg h1], by simp, by simp⟩
  · obtain ⟨h0, r, h1, h2⟩ := h
    exact ⟨_, _, h2, .int, by simp [Op.intDiv, ob_true hg h0, ob_true hg h1], by simp, by simp⟩
  · obtain ⟨r, h1, h2⟩ := h
    refine ⟨_, _, h2, .int, ?_, by simp, by simp⟩
    simp only [Op.intBits, Sem.run_pure, ob_true hg h1]
  · obtain ⟨r, h1, h2⟩ := h
    refine ⟨_, _, h2, .int, ?_, by simp, by simp⟩
    simp only [Op.intBits, Sem.run_pure, ob_true hg h1]
  · obtain ⟨r, h1, h2⟩ := h
    refine ⟨_, _, h2, .int, ?_, by simp, by simp⟩
    simp only [Op.intBits, Sem.run_pure, ob_true hg h1]
  · obtain ⟨r, h1, h2⟩ := h
    refine ⟨_, _, h2, .int, ?_, by simp, by simp⟩
    simp only [Op.intBits, Sem.run_pure, ob_true hg h1]
  · exact ⟨_, _, h, .bool, by simp [Op.intCmp, int_beq], by simp, by simp⟩
  · exact ⟨_, _, h, .bool, by simp [Op.intCmp, bne, int_beq], by simp, by simp⟩
  · exact ⟨_, _, h, .bool, by simp [Op.intCmp], by simp, by simp⟩
  · exact ⟨_, _, h, .bool, by simp [Op.intCmp], by simp, by simp⟩
  · exact ⟨_, _, h, .bool, by simp [Op.intCmp], by simp, by simp⟩
  · exact ⟨_, _, h, .bool, by simp [Op.intCmp], by simp, by simp⟩
  · exact h.elim

theorem binStr_sound (hg : g = none ∨ g = some true) {S : Nat → Prop} {op : BinOp} {x y : ByteArray} {K : AV → Prop} (h : binStr op x y g K) (w : World) :
    ∃ val v, K val ∧ VR w S E val v ∧ (Op.stringOp op x y).run P w = .ok v w ∧ op ≠ .shl ∧ op ≠ .shr := by
  unfold binStr at h
  split at h
  · obtain ⟨h1, h2⟩ := h
    refine ⟨_, _, h2, .str, ?_, by simp, by simp⟩
    have := ob_true hg h1
    have hm : IntKind.i64.max = 9223372036854775807 := by decide
    simp only [Op.stringOp, hm]
    rw [if_neg (by omega)]
    rfl
  · exact ⟨_, _, h, .bool, by simp [Op.stringOp, ← eval_stringEq], by simp, by simp⟩
  · exact ⟨_, _, h, .bool, by simp [Op.stringOp, ← eval_stringEq], by simp, by simp⟩
  · exact ⟨_, _, h, .bool, by simp [Op.stringOp, strLt], by simp, by simp⟩
  · exact ⟨_, _, h, .bool, by simp [Op.stringOp, strLt, ← eval_stringEq], by simp, by simp⟩
  · exact ⟨_, _, h, .bool, by simp [Op.stringOp, strLt, ← eval_stringEq], by simp, by simp⟩
  · exact ⟨_, _, h, .bool, by simp [Op.stringOp, strLt], by simp, by simp⟩
  · exact h.elim

/-! ### Each operation -/
theorem isPtr_sound {S : Nat → Prop} {x : AV} {v : Value} (h : VR w S E x v) (hp : isPtr x = true) : ∃ ad, v = .pointer (some ad) := by
  cases h <;> first | exact ⟨_, rfl⟩ | cases hp

theorem eqn {t : Nat} {x y : Value} {r : Bool} (h : ∀ n, (Op.equalIn (n + 1) t x y).run P w = .ok r w) : (Op.equal t x y).run P w = .ok r w := h 9999

theorem eqAV_sound (hT : TOk P T) {S : Nat → Prop} {t : Nat} {x y : AV} {vx vy : Value} {K : Bool → Prop} (h : eqAV (T t).k x y K) (hx : VR w S E x vx) (hy : VR w S E y vy) :
    ∃ r : Bool, K r ∧ (Op.equal t vx vy).run P w = .ok r w ∧ binOp .eql t vx vy = (do pure (.bool (← Op.equal t vx vy)) : Sem Value) ∧ binOp .neq t vx vy = (do pure (.bool (!(← Op.equal t vx vy))) : Sem Value) ∧ (∀ s, vx ≠ .agg s) ∧ vx ≠ .nilIface := by
  have hk : (T t).k ≠ .other := by intro e; rw [e] at h; exact h.elim
  obtain ⟨i, d, z, hi, hu, hkk, hs, hby, hz, hzo⟩ := hT t hk
  unfold eqAV at h
  split at h
  · rename_i e
    rw [e] at hkk
    split at h
    · split at h
      · cases hx
        cases hy
        refine ⟨_, h, ?_, rfl, rfl, by simp, by simp⟩
        cases d <;> first | exact hkk.elim | skip
        exact eqn fun n => by simp [Op.equalIn, run_underlying hu]
      · exact h.elim
    · exact h.elim
  · rename_i e
    rw [e] at hkk
    have hd : ∃ el, d = .pointer el := by cases d <;> first | exact hkk.elim | exact ⟨_, rfl⟩
    obtain ⟨el, rfl⟩ := hd
    split at h
    · split at h
      · cases hx
        cases hy
        exact ⟨_, h, eqn fun n => by simp [Op.equalIn, run_underlying hu], rfl, rfl, by simp, by simp⟩
      · obtain ⟨h1, h2⟩ := h
        obtain ⟨ad, rfl⟩ := isPtr_sound hy h1
        cases hx
        exact ⟨_, h2, eqn fun n => by simp [Op.equalIn, run_underlying hu], rfl, rfl, by simp, by simp⟩
    · split at h
      · obtain ⟨h1, h2⟩ := h
        obtain ⟨ad, rfl⟩ := isPtr_sound hx h1
        cases hy
        exact ⟨_, h2, eqn fun n => by simp [Op.equalIn, run_underlying hu], rfl, rfl, by simp, by simp⟩
      · exact h.elim
  · rename_i e
    rw [e] at hkk
    have hd : ∃ p r b, d = .func p r b := by cases d <;> first | exact hkk.elim | exact ⟨_, _, _, rfl⟩
    obtain ⟨p1, p2, p3, rfl⟩ := hd
    split at h
    · split at h
      · cases hx
        cases hy
        exact ⟨_, h, eqn fun n => by simp [Op.equalIn, run_underlying hu], rfl, rfl, by simp, by simp⟩
      · cases hx
        cases hy
        exact ⟨_, h, eqn fun n => by simp [Op.equalIn, run_underlying hu], rfl, rfl, by simp, by simp⟩
      · exact h.elim
    · split at h
      · cases hx
        cases hy
        exact ⟨_, h, eqn fun n => by simp [Op.equalIn, run_underlying hu], rfl, rfl, by simp, by simp⟩
      · exact h.elim
    · exact h.elim
  · exact h.elim

theorem binE_sound (hT : TOk P T) (hg : g = none ∨ g = some true) {op : BinOp} {t : Nat} {x y : AV} {vx vy : Value} {K : AV → Prop} (ox oy : Operand) (h : binE P T op t x y g K) (hx : VR w (SX X E hp) E x vx) (hy : VR w (SX X E hp) E y vy) :
    ∃ val v, K val ∧ (do eqGuard op t ox oy vx vy; binOp op t vx vy : Sem Value).run P w = .ok v w ∧ VR w (SX X E hp) E val v := by
  have guard : ∀ op, (∀ s, vx ≠ .agg s) → vx ≠ .nilIface → (eqGuard op t ox oy vx vy).run P w = .ok () w := by
    intro op h1 h2
    cases vx <;> cases op <;> first | rfl | exact absurd rfl (h1 _) | exact absurd rfl h2
  unfold binE at h
  split at h
  · -- ints
    cases hx
    split at h
    · cases hy
      have hgd := guard op (by simp) (by simp)
      split at h
      · obtain ⟨h1, r, h2, h3⟩ := h
        refine ⟨_, _, h3, ?_, .int⟩
        have := ob_true hg h1
        simp only [Sem.run_bind, hgd, Result.andThen_ok, binOp, Op.shift]
        rw [if_neg (by omega)]
        simp [ob_true hg h2]
      · obtain ⟨h1, r, h2, h3⟩ := h
        refine ⟨_, _, h3, ?_, .int⟩
        have := ob_true hg h1
        simp only [Sem.run_bind, hgd, Result.andThen_ok, binOp, Op.shift]
        rw [if_neg (by omega)]
        simp [ob_true hg h2]
      · rename_i n1 n2
        obtain ⟨rfl, h⟩ := h
        obtain ⟨val, v, h1, h2, h3, h4, h5⟩ := binInt_sound (P := P) (E := E) (S := SX X E hp) hg h w
        refine ⟨val, v, h1, ?_, h2⟩
        simp only [Sem.run_bind, hgd, Result.andThen_ok]
        rw [← h3]
        cases op <;> first | exact absurd rfl h4 | exact absurd rfl h5 | simp [binOp]
    · exact h.elim
  · cases hx
    split at h
    · cases hy
      have hgd := guard op (by simp) (by simp)
      obtain ⟨val, v, h1, h2, h3, h4, h5⟩ := binStr_sound (P := P) (E := E) (S := SX X E hp) hg h w
      refine ⟨val, v, h1, ?_, h2⟩
      simp only [Sem.run_bind, hgd, Result.andThen_ok]
      rw [← h3]
      cases op <;> first | exact absurd rfl h4 | exact absurd rfl h5 | simp [binOp]
    · exact h.elim
  · split at h
    · split at h
      · obtain ⟨c1, c2, r, h1, h2⟩ := h
        have he := ob_true hg h1 w (SX X E hp) (SX X E hp) vx vy ox oy (hx.shut c1) (hy.shut c2)
        exact ⟨_, _, h2, he.1, .bool⟩
      · obtain ⟨c1, c2, r, h1, h2⟩ := h
        have he := ob_true hg h1 w (SX X E hp) (SX X E hp) vx vy ox oy (hx.shut c1) (hy.shut c2)
        exact ⟨_, _, h2, he.2, .bool⟩
      · exact h.elim
    · exact h.elim
  · split at h
    · obtain ⟨r, h1, h2, h3, h4, h5, h6⟩ := eqAV_sound hT h hx hy
      refine ⟨_, _, h1, ?_, .bool⟩
      simp only [Sem.run_bind, guard .eql h5 h6, Result.andThen_ok]
      rw [h3]
      simp [h2]
    · obtain ⟨r, h1, h2, h3, h4, h5, h6⟩ := eqAV_sound hT h hx hy
      refine ⟨_, _, h1, ?_, .bool⟩
      simp only [Sem.run_bind, guard .neq h5 h6, Result.andThen_ok]
      rw [h4]
      simp [h2]
    · exact h.elim
end
end Go.Mir
