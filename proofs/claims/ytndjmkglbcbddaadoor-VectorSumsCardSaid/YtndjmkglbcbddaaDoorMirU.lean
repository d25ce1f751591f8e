/- A table of types fits its program: words for the proof by program. Weaker states, reckoned slot by slot. No condition. -/
import Derived.Test.YtndjmkglbcbddaaDoorMirT
set_option linter.unusedVariables false
namespace Go.Mir

def TyOk (P : Program) (ti : TI) (t : Nat) : Prop := ∃ i d z, P.info? t = some i ∧ P.underlying t = some d ∧ KOk d ti.k ∧ i.size = ti.size ∧ i.bytes = ti.bytes ∧ i.zero = some z ∧ ZOk ti z

theorem const_closed (v : Value) : (constAV v).closed = true := by
  unfold constAV
  split <;> rfl
theorem consts_closed : ∀ vs : List Value, AV.closed.closeds (vs.map constAV) = true
  | [] => rfl
  | v :: vs => by simp only [List.map_cons, AV.closed.closeds, const_closed v, consts_closed vs, Bool.and_self]
theorem consts_rel (vs : List Value) (w : World) (S : Nat → Prop) (E : List Slot) : VRL w S E (vs.map constAV) vs :=
  ⟨by simp, fun j c v h1 h2 => by
    rw [List.getElem?_map, h2] at h1
    cases h1
    exact constAV_sound v⟩

theorem tyOk_agg {P : Program} {ti : TI} {t : Nat} {i : TypeInfo} {d : TypeDesc} {vs : List Value} (hi : P.info? t = some i) (hu : P.underlying t = some d) (hk : KOk d ti.k) (hs : i.size = ti.size) (hb : i.bytes = ti.bytes) (hz : i.zero = some (.agg ⟨vs⟩))
    (h0 : ti.zero = vs.map constAV) (hl : ti.zero.length = ti.size) (ha : ti.k.agg = true) : TyOk P ti t :=
  ⟨i, d, _, hi, hu, hk, hs, hb, hz, hl, by rw [h0]; exact consts_closed vs, .inl ⟨ha, vs, rfl, fun w S E => by rw [h0]; exact consts_rel vs w S E⟩⟩
theorem tyOk_one {P : Program} {ti : TI} {t : Nat} {i : TypeInfo} {d : TypeDesc} {z : Value} (hi : P.info? t = some i) (hu : P.underlying t = some d) (hk : KOk d ti.k) (hs : i.size = ti.size) (hb : i.bytes = ti.bytes) (hz : i.zero = some z)
    (h0 : ti.zero = [constAV z]) (hl : ti.zero.length = ti.size) (ha : ti.k.agg = false) (ho : z.oneCell' = true) : TyOk P ti t :=
  ⟨i, d, z, hi, hu, hk, hs, hb, hz, hl, by rw [h0]; exact consts_closed [z], .inr ⟨ha, ho, _, h0, fun w S E => constAV_sound z⟩⟩
theorem tok_all {P : Program} {T : Nat → TI} (n : Nat) (hn : ∀ t, n ≤ t → (T t).k = .other) (h : ∀ t, t < n → (T t).k ≠ .other → TyOk P (T t) t) : TOk P T := by
  intro t hk
  by_cases ht : t < n
  · exact h t ht hk
  · exact absurd (hn t (Nat.le_of_not_lt ht)) hk

/-! ### Weaker states -/
def avLe (c d : AV) (p : Prop) : Prop :=
  match d with
  | .any => p
  | d => VLe c d ∧ p
def frLe : List AV → List AV → Prop → Prop
  | [], [], p => p
  | c :: cs, d :: ds, p => avLe c d (frLe cs ds p)
  | _, _, _ => False
def objLe (o o' : Obj) (p : Prop) : Prop :=
  match o' with
  | .dead => p
  | .cells ds => match o with
    | .cells cs => frLe cs ds p
    | _ => False
  | o' => o = o' ∧ p
def hpLe : List Obj → List Obj → Prop → Prop
  | _, [], p => p
  | o :: os, o' :: os', p => objLe o o' (hpLe os os' p)
  | [], _ :: _, _ => False

/-- All references are below n. -/
def AV.under (n : Nat) : AV → Bool
  | .loc j _ | .rowf j _ | .rloc j _ _ _ | .mp j | .csl j _ _ _ => Nat.blt j n
  | .agg cs => unders n cs
  | .tup cs => unders n cs
  | .fn _ as cs => unders n as && unders n cs
  | .when _ v => AV.under n v
  | _ => true
where
  unders (n : Nat) : List AV → Bool
  | [] => true
  | c :: cs => AV.under n c && unders n cs
def objUnder (n : Nat) : Obj → Bool
  | .cells cs => AV.under.unders n cs
  | _ => true
def hpUnder (n : Nat) : List Obj → Bool
  | [] => true
  | o :: os => objUnder n o && hpUnder n os

theorem unders_at {n : Nat} : ∀ {cs : List AV}, AV.under.unders n cs = true → ∀ c ∈ cs, c.under n = true
  | [], _, c, h => by cases h
  | x :: cs, h, c, hc => by
    simp only [AV.under.unders, Bool.and_eq_true] at h
    rcases List.mem_cons.1 hc with rfl | hc
    · exact h.1
    · exact unders_at h.2 c hc

theorem take_at {E : List Slot} {n j : Nat} {s : Slot} (h : E[j]? = some s) (hb : Nat.blt j n = true) : (E.take n)[j]? = some s := by
  rw [List.getElem?_take, if_pos (show j < n from Nat.le_of_ble_eq_true hb)]; exact h
/-- Only the objects below n are referred to. -/
theorem VR.cut {w : World} {S : Nat → Prop} {E : List Slot} {c : AV} {v : Value} {n : Nat} (h : VR w S E c v) : c.under n = true → VR w S (E.take n) c v := by
  induction h with
  | any => exact fun _ => .any
  | bool => exact fun _ => .bool
  | int => exact fun _ => .int
  | str => exact fun _ => .str
  | nilp => exact fun _ => .nilp
  | nilf => exact fun _ => .nilf
  | nili => exact fun _ => .nili
  | nilm => exact fun _ => .nilm
  | nils => exact fun _ => .nils
  | agg hl _ ih => exact fun hc => .agg hl fun j c v h1 h2 => ih j c v h1 h2 (unders_at hc c (List.mem_of_getElem? h1))
  | tup hl _ ih => exact fun hc => .tup hl fun j c v h1 h2 => ih j c v h1 h2 (unders_at hc c (List.mem_of_getElem? h1))
  | sl ad f hn hm hcp ha hsp hs hb hsz hc hv => exact fun _ => .sl ad f hn hm hcp ha hsp hs hb hsz hc hv
  | fz f hsp hs hb hc hv => exact fun _ => .fz f hsp hs hb hc hv
  | fmap hs hb hl hbn hnd hk hv => exact fun _ => .fmap hs hb hl hbn hnd hk hv
  | loc hE hk hb => exact fun h => .loc (take_at hE h) hk hb
  | rowf hE hk hle h => exact fun h' => .rowf (take_at hE h') hk hle h
  | rloc hE hk hle hsp h => exact fun h' => .rloc (take_at hE h') hk hle hsp h
  | mp hE hk hb => exact fun h => .mp (take_at hE h) hk hb
  | csl hE hk hb => exact fun h => .csl (take_at hE h) hk hb
  | fn hl hl' _ _ ih ih' =>
    intro hc
    simp only [AV.under, Bool.and_eq_true] at hc
    exact .fn hl hl' (fun j c v h1 h2 => ih j c v h1 h2 (unders_at hc.1 c (List.mem_of_getElem? h1))) (fun j c v h1 h2 => ih' j c v h1 h2 (unders_at hc.2 c (List.mem_of_getElem? h1)))
  | when _ h0 ih => exact fun hc => .when (fun hb => ih hb hc) h0

theorem avLe_spec {c d : AV} {p : Prop} (h : avLe c d p) : VLe c d ∧ p := by
  unfold avLe at h
  split at h
  · exact ⟨VLe.any c, h⟩
  · exact h
theorem frLe_spec : ∀ {cs ds : List AV} {p : Prop}, frLe cs ds p → cs.length = ds.length ∧ (∀ (j : Nat) c d, cs[j]? = some c → ds[j]? = some d → VLe c d) ∧ p
  | [], [], p, h => ⟨rfl, fun j c d h => by simp at h, h⟩
  | c :: cs, d :: ds, p, h => by
    obtain ⟨h1, h2⟩ := avLe_spec h
    obtain ⟨h3, h4, h5⟩ := frLe_spec h2
    refine ⟨by simp [h3], fun j c' d' e1 e2 => ?_, h5⟩
    cases j with
    | zero => simp at e1 e2; subst e1 e2; exact h1
    | succ j => exact h4 j c' d' (by simpa using e1) (by simpa using e2)
  | [], _ :: _, _, h => h.elim
  | _ :: _, [], _, h => h.elim
def OLe (o o' : Obj) : Prop := o' = .dead ∨ o = o' ∨ ∃ cs ds, o = .cells cs ∧ o' = .cells ds ∧ cs.length = ds.length ∧ ∀ (j : Nat) c d, cs[j]? = some c → ds[j]? = some d → VLe c d
theorem objLe_spec {o o' : Obj} {p : Prop} (h : objLe o o' p) : OLe o o' ∧ p := by
  unfold objLe at h
  split at h
  · exact ⟨.inl rfl, h⟩
  · split at h
    · obtain ⟨h1, h2, h3⟩ := frLe_spec h
      exact ⟨.inr (.inr ⟨_, _, rfl, rfl, h1, h2⟩), h3⟩
    · exact h.elim
  · exact ⟨.inr (.inl h.1), h.2⟩
theorem hpLe_spec : ∀ {hp hp' : List Obj} {p : Prop}, hpLe hp hp' p → hp'.length ≤ hp.length ∧ (∀ (j : Nat) o o', hp[j]? = some o → hp'[j]? = some o' → OLe o o') ∧ p
  | hp, [], p, h => ⟨by simp, fun j o o' _ h => by simp at h, by cases hp <;> exact h⟩
  | o :: os, o' :: os', p, h => by
    obtain ⟨h1, h2⟩ := objLe_spec h
    obtain ⟨h3, h4, h5⟩ := hpLe_spec h2
    refine ⟨by simp [h3], fun j c' d' e1 e2 => ?_, h5⟩
    cases j with
    | zero => simp at e1 e2; subst e1 e2; exact h1
    | succ j => exact h4 j c' d' (by simpa using e1) (by simpa using e2)
  | [], _ :: _, _, h => h.elim

/-- A weaker state. -/
theorem Le.of {m : Nat} {fr fr' : List AV} {hp hp' : List Obj} (h : frLe fr fr' (hpLe hp hp' (AV.under.unders hp'.length fr' = true ∧ hpUnder hp'.length hp' = true ∧ Nat.ble m hp'.length = true))) : Le m ⟨fr, hp⟩ ⟨fr', hp'⟩ := by
  obtain ⟨f1, f2, h⟩ := frLe_spec h
  obtain ⟨h1, h2, h3, h4, h5⟩ := hpLe_spec h
  have h5 := Nat.le_of_ble_eq_true h5
  intro X m' w a E hs
  have hEl := hs.hr.len
  simp only at hEl
  have own_le : ∀ b, own (E.take hp'.length) hp' b → own E hp b := by
    rintro b ⟨j, o, s, e1, e2, e3, e4⟩
    have hj := (List.getElem?_eq_some_iff.1 e1).1
    rw [List.getElem?_take, if_pos hj] at e3
    have hj' : j < hp.length := by omega
    refine ⟨j, hp[j], s, by simp [hj'], ?_, e3, e4⟩
    rcases h2 j hp[j] o (by simp [hj']) e1 with rfl | h | ⟨cs, ds, h, h', _⟩
    · cases e2
    · rw [h]; exact e2
    · rw [h]; rfl
  have hS : ∀ b, SX X (E.take hp'.length) hp' b → SX X E hp b := fun b h => h.imp id (own_le b)
  have at_ : ∀ (j : Nat) o' s, hp'[j]? = some o' → (E.take hp'.length)[j]? = some s → ∃ o, hp[j]? = some o ∧ E[j]? = some s ∧ OLe o o' := by
    intro j o' s e1 e2
    have hj := (List.getElem?_eq_some_iff.1 e1).1
    rw [List.getElem?_take, if_pos hj] at e2
    have hj' : j < hp.length := by omega
    exact ⟨hp[j], by simp [hj'], e2, h2 j hp[j] o' (by simp [hj']) e1⟩
  have live_ : ∀ {o o' : Obj}, OLe o o' → o'.live = true → o.live = true := by
    rintro o o' (rfl | rfl | ⟨cs, ds, rfl, rfl, _⟩) hl
    · cases hl
    · exact hl
    · rfl
  have move : ∀ {c : AV} {v : Value}, VR w (SX X E hp) E c v → c.under hp'.length = true → VR w (SX X (E.take hp'.length) hp') (E.take hp'.length) c v :=
    fun h hu => (h.cut hu).mono (FrameW.refl _ _) (fun b _ hb => hS b hb) (.refl _)
  refine ⟨E.take hp'.length, ⟨⟨by simp; omega, fun j o' s e1 e2 => ?_, hs.hr.xlt, fun j o' s b hm e1 hl e2 hb => ?_, fun i j oi oj si sj b e1 e2 l1 l2 a1 a2 b1 b2 => ?_, fun j o' s b e1 hl e2 hb => ?_⟩, by rw [hs.len]; exact f1, fun t d hd => ?_, hs.defers⟩, ⟨?_, FrameW.refl _ _, fun b _ h => own_le b h⟩⟩
  · obtain ⟨o, e3, e4, hle⟩ := at_ j o' s e1 e2
    have hor := hs.hr.obj j o s e3 e4
    have hu : objUnder hp'.length o' = true := by
      have : ∀ {n : Nat} {l : List Obj} {j : Nat}, hpUnder n l = true → l[j]? = some o' → objUnder n o' = true := by
        intro n l
        induction l with
        | nil => intro j _ h; simp at h
        | cons x l ih =>
          intro j h hj
          simp only [hpUnder, Bool.and_eq_true] at h
          cases j with
          | zero => simp at hj; subst hj; exact h.1
          | succ j => exact ih h.2 (by simpa using hj)
      exact this h4 e1
    rcases hle with rfl | rfl | ⟨cs, ds, rfl, rfl, hl, hv⟩
    · trivial
    · cases o with
      | dead => trivial
      | cells cs =>
        obtain ⟨k1, b, vs, t, k2, k3, k4, k5⟩ := hor
        exact ⟨k1, b, vs, t, k2, k3, k4, fun j c v q1 q2 => move (k5 j c v q1 q2) (unders_at hu c (List.mem_of_getElem? q1))⟩
      | row α enc sz d xs ver => exact OR.mono (FrameW.refl (SX X E hp) w) (fun b _ hb => hS b hb) (E' := E) (ExtE.refl _) (fun _ _ _ => rfl) hor
      | map κ ν ek ev es => exact OR.mono (FrameW.refl (SX X E hp) w) (fun b _ hb => hS b hb) (E' := E) (ExtE.refl _) (fun _ _ _ => rfl) hor
    · obtain ⟨k1, b, vs, t, k2, k3, k4, k5⟩ := hor
      refine ⟨k1, b, vs, t, k2, k3, by omega, fun j d v q1 q2 => move ?_ (unders_at hu d (List.mem_of_getElem? q1))⟩
      have hj := (List.getElem?_eq_some_iff.1 q1).1
      exact hv j cs[j] d (by simp) q1 _ _ _ _ (k5 j cs[j] v (by simp) q2)
  · obtain ⟨o, e3, e4, hle⟩ := at_ j o' s e1 e2
    exact hs.hr.new j o s b hm e3 (live_ hle hl) e4 hb
  · obtain ⟨oi', p1, p2, p3⟩ := at_ i oi si e1 a1
    obtain ⟨oj', q1, q2, q3⟩ := at_ j oj sj e2 a2
    exact hs.hr.inj i j oi' oj' si sj b p1 q1 (live_ p3 l1) (live_ q3 l2) p2 q2 b1 b2
  · obtain ⟨o, e3, e4, hle⟩ := at_ j o' s e1 e2
    exact hs.hr.lt j o s b e3 (live_ hle hl) e4 hb
  · have ht := (List.getElem?_eq_some_iff.1 hd).1
    have ht' : t < fr.length := by rw [f1]; exact ht
    have := hs.tmp t fr[t] (by simp [ht'])
    exact move (f2 t fr[t] d (by simp [ht']) hd _ _ _ _ this) (unders_at h3 d (List.mem_of_getElem? hd))
  · rw [List.take_take, Nat.min_eq_left h5]; exact ExtE.refl _
end Go.Mir
