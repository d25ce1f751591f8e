/- The abstract values of the calculus 'Mir', what it means that a value in memory reads as one, and that this lasts. No condition. -/
import Derived.Calls
import Derived.Below
set_option linter.unusedVariables false
namespace Go.Mir
open Go.RowKit (Below)

/-- Abstract values. Data that nobody writes any more is held by content ('sl', 'fz', 'fmap'); 'loc', 'rowf', 'rloc', 'mp' refer to owned objects by their positions. -/
inductive AV : Type 1
  | any
  | bool (b : Bool)
  | int (k : IntKind) (n : Int)
  | str (s : ByteArray)
  | nilp
  | nilf
  | nili
  | nilm
  | nils
  | agg (cs : List AV)
  | tup (vs : List AV)
  | sl (α : Type) (enc : α → List AV) (sz : Nat) (d : α) (xs : List α)
  | fz (cs : List AV)
  | fmap (κ ν : Type) (ek : κ → AV) (ev : ν → AV) (es : List (κ × ν))
  | loc (j off : Nat)
  | rowf (j ver : Nat)
  | rloc (j ver i off : Nat)
  | mp (j : Nat)
  | csl (j off n cap : Nat)
  | fn (f : Fn) (first captured : List AV)
  | when (b : Bool) (v : AV)

inductive SlotKind where
  | ph | fix | row
  deriving DecidableEq

/-- Where an owned object lies. -/
structure Slot where
  kind : SlotKind
  b : Option Nat
  cap : Nat
  ver : Nat
  sz : Nat
  len : Nat

/-- Memory that is not owned ('S': the owned blocks) is never written by this activation. -/
inductive VR (w : World) (S : Nat → Prop) : List Slot → AV → Value → Prop
  | any {E : List Slot} {v : Value} : VR w S E .any v
  | bool {E : List Slot} {b : Bool} : VR w S E (.bool b) (.bool b)
  | int {E : List Slot} {k : IntKind} {n : Int} : VR w S E (.int k n) (.int k n)
  | str {E : List Slot} {s : ByteArray} : VR w S E (.str s) (.string s)
  | nilp {E : List Slot} : VR w S E .nilp (.pointer none)
  | nilf {E : List Slot} : VR w S E .nilf .nilFunc
  | nili {E : List Slot} : VR w S E .nili .nilIface
  | nilm {E : List Slot} : VR w S E .nilm (.map none)
  | nils {E : List Slot} {a : Option Addr} : VR w S E .nils (.slice a 0 0)
  | agg {E : List Slot} {cs : List AV} {vs : List Value} (hl : cs.length = vs.length) (h : ∀ (j : Nat) c v, cs[j]? = some c → vs[j]? = some v → VR w S E c v) : VR w S E (.agg cs) (.agg ⟨vs⟩)
  | tup {E : List Slot} {cs : List AV} {vs : List Value} (hl : cs.length = vs.length) (h : ∀ (j : Nat) c v, cs[j]? = some c → vs[j]? = some v → VR w S E c v) : VR w S E (.tup cs) (.tuple ⟨vs⟩)
  | sl {E : List Slot} {α : Type} {enc : α → List AV} {sz : Nat} {d : α} {xs : List α} {a : Option Addr} {n cap : Nat} (ad : Addr) (f : Nat → Nat → Value)
      (hn : n = xs.length) (hm : n ≤ 9223372036854775807) (hcp : n ≤ cap) (ha : 0 < n → a = some ad) (hsp : ad.spot = none) (hs : 0 < n → ¬ S ad.block) (hb : 0 < n → ad.block < w.heap.size) (hsz : ∀ x ∈ xs, (enc x).length = sz)
      (hc : ∀ i j, i < n → j < sz → w.cell? ⟨ad.block, ad.off + (i * sz + j), none⟩ = some (f i j))
      (hv : ∀ (i : Nat) x (j : Nat) c, xs[i]? = some x → (enc x)[j]? = some c → VR w S [] c (f i j)) : VR w S E (.sl α enc sz d xs) (.slice a n cap)
  | fz {E : List Slot} {cs : List AV} {ad : Addr} (f : Nat → Value) (hsp : ad.spot = none) (hs : ¬ S ad.block) (hb : ad.block < w.heap.size)
      (hc : ∀ j, j < cs.length → w.cell? ⟨ad.block, ad.off + j, none⟩ = some (f j))
      (hv : ∀ (j : Nat) c, cs[j]? = some c → VR w S [] c (f j)) : VR w S E (.fz cs) (.pointer (some ad))
  | fmap {E : List Slot} {κ ν : Type} {ek : κ → AV} {ev : ν → AV} {es : List (κ × ν)} {b : Nat} {ents : List MapEntry} {clock : Nat}
      (hs : ¬ S b) (hb : w.heap[b]? = some (.map ⟨ents⟩ clock)) (hl : ents.length = es.length)
      (hbn : ∀ e ∈ ents, e.born < clock) (hnd : (ents.map (·.born)).Nodup)
      (hk : ∀ (i : Nat) e x, ents[i]? = some e → es[i]? = some x → VR w S [] (ek x.1) e.key)
      (hv : ∀ (i : Nat) e x, ents[i]? = some e → es[i]? = some x → VR w S [] (ev x.2) e.val) : VR w S E (.fmap κ ν ek ev es) (.map (some b))
  | loc {E : List Slot} {j off b : Nat} {s : Slot} (hE : E[j]? = some s) (hk : s.kind = .fix) (hb : s.b = some b) : VR w S E (.loc j off) (.pointer (some ⟨b, off, none⟩))
  | rowf {E : List Slot} {j ver : Nat} {s : Slot} {a : Option Addr} {n cap : Nat} (hE : E[j]? = some s) (hk : s.kind = .row) (hle : ver ≤ s.ver)
      (h : s.ver = ver → n = s.len ∧ cap = s.cap ∧ (∀ b, s.b = some b → a = some ⟨b, 0, none⟩) ∧ (s.b = none → n = 0 ∧ cap = 0)) : VR w S E (.rowf j ver) (.slice a n cap)
  | rloc {E : List Slot} {j ver i off : Nat} {s : Slot} {ad : Addr} (hE : E[j]? = some s) (hk : s.kind = .row) (hle : ver ≤ s.ver) (hsp : ad.spot = none)
      (h : s.ver = ver → ∃ b, s.b = some b ∧ ad = ⟨b, i * s.sz + off, none⟩) : VR w S E (.rloc j ver i off) (.pointer (some ad))
  | mp {E : List Slot} {j b : Nat} {s : Slot} (hE : E[j]? = some s) (hk : s.kind = .fix) (hb : s.b = some b) : VR w S E (.mp j) (.map (some b))
  | csl {E : List Slot} {j off n cap b : Nat} {s : Slot} (hE : E[j]? = some s) (hk : s.kind = .fix) (hb : s.b = some b) : VR w S E (.csl j off n cap) (.slice (some ⟨b, off, none⟩) n cap)
  | fn {E : List Slot} {f : Fn} {as cs : List AV} {av cv : List Value} (hl : as.length = av.length) (hl' : cs.length = cv.length)
      (h : ∀ (j : Nat) c v, as[j]? = some c → av[j]? = some v → VR w S E c v) (h' : ∀ (j : Nat) c v, cs[j]? = some c → cv[j]? = some v → VR w S E c v) : VR w S E (.fn f as cs) (.func f ⟨av⟩ ⟨cv⟩)
  | when {E : List Slot} {b : Bool} {c : AV} {v : Value} (h : b = true → VR w S E c v) (h0 : b = false → v = undef) : VR w S E (.when b c) v

/-- What is not owned and lay there lies as it lay. -/
structure FrameW (S : Nat → Prop) (w w' : World) : Prop where
  os : w'.os = w.os
  tape : w'.tape = w.tape
  output : w'.output = w.output
  size : w.heap.size ≤ w'.heap.size
  block : ∀ b, b < w.heap.size → ¬ S b → w'.heap[b]? = w.heap[b]?

theorem FrameW.refl (S : Nat → Prop) (w : World) : FrameW S w w := ⟨rfl, rfl, rfl, Nat.le_refl _, fun _ _ _ => rfl⟩
theorem FrameW.trans {S S1 : Nat → Prop} {w w1 w2 : World} (h : FrameW S w w1) (h1 : FrameW S1 w1 w2) (hs : ∀ b, b < w.heap.size → S1 b → S b) : FrameW S w w2 :=
  ⟨h1.os.trans h.os, h1.tape.trans h.tape, h1.output.trans h.output, Nat.le_trans h.size h1.size,
    fun b hb hn => (h1.block b (Nat.lt_of_lt_of_le hb h.size) fun h => hn (hs b hb h)).trans (h.block b hb hn)⟩
theorem FrameW.mono {S S' : Nat → Prop} {w w1 : World} (h : FrameW S w w1) (hs : ∀ b, b < w.heap.size → S b → S' b) : FrameW S' w w1 :=
  ⟨h.os, h.tape, h.output, h.size, fun b hb hn => h.block b hb fun h => hn (hs b hb h)⟩
theorem FrameW.below {w w' : World} (h : FrameW (fun _ => False) w w') : Below w.heap.size w w' :=
  ⟨h.os, h.tape, h.output, h.size, fun b hb => h.block b hb id⟩
theorem FrameW.of_below {S : Nat → Prop} {w w' : World} (h : Below w.heap.size w w') : FrameW S w w' :=
  ⟨h.os, h.tape, h.output, h.size, fun b hb _ => h.block b hb⟩

/-- What the owned objects' places become: those that were stay; a row that grew has a later version. -/
def ExtE (E E' : List Slot) : Prop :=
  ∀ (j : Nat) (s : Slot), E[j]? = some s → s.kind ≠ .ph → ∃ s', E'[j]? = some s' ∧ (s' = s ∨ (s.kind = .row ∧ s'.kind = .row ∧ s.ver < s'.ver))
theorem ExtE.refl (E : List Slot) : ExtE E E := fun _ s h _ => ⟨s, h, .inl rfl⟩
theorem ExtE.trans {E E1 E2 : List Slot} (h : ExtE E E1) (h1 : ExtE E1 E2) : ExtE E E2 := by
  intro j s hs hp
  obtain ⟨s1, e1, h'⟩ := h j s hs hp
  rcases h' with rfl | ⟨k, k1, l⟩
  · exact h1 j s1 e1 hp
  · obtain ⟨s2, e2, h''⟩ := h1 j s1 e1 (by rw [k1]; decide)
    rcases h'' with rfl | ⟨_, k2, l2⟩
    · exact ⟨s2, e2, .inr ⟨k, k1, l⟩⟩
    · exact ⟨s2, e2, .inr ⟨k, k2, Nat.lt_trans l l2⟩⟩

theorem cell_lt {w : World} {a : Addr} {v : Value} (h : w.cell? a = some v) : a.block < w.heap.size := by
  unfold World.cell? at h
  rcases Nat.lt_or_ge a.block w.heap.size with h' | h'
  · exact h'
  · simp [Array.getElem?_eq_none h'] at h
theorem cell_block {w w' : World} {a : Addr} (h : w'.heap[a.block]? = w.heap[a.block]?) : w'.cell? a = w.cell? a := by
  unfold World.cell?; rw [h]

/-- A reading lasts. -/
theorem VR.mono {w w' : World} {S S' : Nat → Prop} (hf : FrameW S w w') (hs : ∀ b, b < w.heap.size → S' b → S b) {E : List Slot} {c : AV} {v : Value} (h : VR w S E c v) : ∀ {E' : List Slot}, ExtE E E' → VR w' S' E' c v := by
  induction h with
  | any => exact fun _ => .any
  | bool => exact fun _ => .bool
  | int => exact fun _ => .int
  | str => exact fun _ => .str
  | nilp => exact fun _ => .nilp
  | nilf => exact fun _ => .nilf
  | nili => exact fun _ => .nili
  | nilm => exact fun _ => .nilm
  | nils => exact fun _ => .nils
  | agg hl _ ih => exact fun he => .agg hl fun j c v h1 h2 => ih j c v h1 h2 he
  | tup hl _ ih => exact fun he => .tup hl fun j c v h1 h2 => ih j c v h1 h2 he
  | @sl E α enc sz d xs a n cap ad f hn hm hcp ha hsp hsb hb hsz hc _ ih =>
    intro E' _
    refine .sl ad f hn hm hcp ha hsp (fun h0 hS => hsb h0 (hs _ (hb h0) hS)) (fun h0 => Nat.lt_of_lt_of_le (hb h0) hf.size) hsz (fun i j hi hj => ?_) (fun i x j c h1 h2 => ih i x j c h1 h2 (ExtE.refl _))
    exact (cell_block (a := ⟨ad.block, _, none⟩) (hf.block _ (hb (by omega)) (hsb (by omega)))).trans (hc i j hi hj)
  | @fz E cs ad f hsp hsb hb hc _ ih =>
    intro E' _
    refine .fz f hsp (fun h => hsb (hs _ hb h)) (Nat.lt_of_lt_of_le hb hf.size) (fun j hj => ?_) (fun j c h1 => ih j c h1 (ExtE.refl _))
    exact (cell_block (a := ⟨ad.block, _, none⟩) (hf.block _ hb hsb)).trans (hc j hj)
  | fmap hsb hb hl hbn hnd _ _ ihk ihv =>
    intro E' _
    have hlt := (Array.getElem?_eq_some_iff.1 hb).1
    exact .fmap (fun h => hsb (hs _ hlt h)) ((hf.block _ hlt hsb).trans hb) hl hbn hnd (fun i e x h1 h2 => ihk i e x h1 h2 (ExtE.refl _)) (fun i e x h1 h2 => ihv i e x h1 h2 (ExtE.refl _))
  | loc hE hk hb =>
    intro E' he
    obtain ⟨s', e', h⟩ := he _ _ hE (by rw [hk]; decide)
    rcases h with rfl | ⟨k, _, _⟩
    · exact .loc e' hk hb
    · rw [hk] at k; cases k
  | rowf hE hk hle h =>
    intro E' he
    obtain ⟨s', e', h'⟩ := he _ _ hE (by rw [hk]; decide)
    rcases h' with rfl | ⟨k, k', l⟩
    · exact .rowf e' hk hle h
    · exact .rowf e' k' (by omega) fun hv => absurd hv (by omega)
  | rloc hE hk hle hsp h =>
    intro E' he
    obtain ⟨s', e', h'⟩ := he _ _ hE (by rw [hk]; decide)
    rcases h' with rfl | ⟨k, k', l⟩
    · exact .rloc e' hk hle hsp h
    · exact .rloc e' k' (by omega) hsp fun hv => absurd hv (by omega)
  | mp hE hk hb =>
    intro E' he
    obtain ⟨s', e', h⟩ := he _ _ hE (by rw [hk]; decide)
    rcases h with rfl | ⟨k, _, _⟩
    · exact .mp e' hk hb
    · rw [hk] at k; cases k
  | csl hE hk hb =>
    intro E' he
    obtain ⟨s', e', h⟩ := he _ _ hE (by rw [hk]; decide)
    rcases h with rfl | ⟨k, _, _⟩
    · exact .csl e' hk hb
    · rw [hk] at k; cases k
  | fn hl hl' _ _ ih ih' => exact fun he => .fn hl hl' (fun j c v h1 h2 => ih j c v h1 h2 he) (fun j c v h1 h2 => ih' j c v h1 h2 he)
  | when _ h0 ih => exact fun he => .when (fun hb => ih hb he) h0
end Go.Mir
