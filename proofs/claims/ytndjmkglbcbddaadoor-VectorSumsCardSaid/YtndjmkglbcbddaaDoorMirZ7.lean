/- Functions whose answer is known otherwise, for the evaluator: counts of bytes, the first place of a byte, joined strings. No condition. -/
import Derived.Test.YtndjmkglbcbddaaDoorMirZ6
import Derived.Test.YtndjmkglbcbddaaDoorMirY
import Derived.Lib.Join
set_option linter.unusedVariables false
set_option maxRecDepth 10000
namespace Go.Mir
noncomputable section

def cntB (c : Nat) : List UInt8 → Nat
  | [] => 0
  | x :: l => match Nat.beq x.toNat c with
    | true => Nat.succ (cntB c l)
    | false => cntB c l
theorem beq_u8 (x c : UInt8) : Nat.beq x.toNat c.toNat = (x == c) := by
  by_cases h : x = c
  · subst h
    rw [show Nat.beq x.toNat x.toNat = true from Nat.beq_refl _]
    simp
  · have h1 : ¬ x.toNat = c.toNat := fun e => h (UInt8.toNat.inj e)
    have h2 : Nat.beq x.toNat c.toNat = false := by
      cases hb : Nat.beq x.toNat c.toNat with
      | false => rfl
      | true => exact absurd (Nat.eq_of_beq_eq_true hb) h1
    rw [h2]
    simp [h]
theorem cntB_eq (c : UInt8) : ∀ l : List UInt8, cntB c.toNat l = Lib.countByte l c
  | [] => rfl
  | x :: l => by
    have ih := cntB_eq c l
    unfold Lib.countByte at ih ⊢
    rw [List.count_cons, ← ih, ← beq_u8]
    simp only [cntB]
    cases Nat.beq x.toNat c.toNat <;> simp
def idxB (c : Nat) : List UInt8 → Nat → Int
  | [], _ => -1
  | x :: l, i => match Nat.beq x.toNat c with
    | true => .ofNat i
    | false => idxB c l (Nat.succ i)
theorem idxB_at (s : ByteArray) (c : UInt8) : ∀ (l : List UInt8) (i : Nat), s.data.toList.drop i = l → (match ((List.range s.size).drop i).find? fun i => s[i]! == c with
  | some i => (i : Int)
  | none => -1) = idxB c.toNat l i
  | [], i, h => by
    have hl : s.size ≤ i := by
      have := congrArg List.length h
      simp at this
      omega
    rw [List.drop_eq_nil_of_le (by simpa using hl)]
    rfl
  | x :: l, i, h => by
    have hl : i < s.size := by
      have := congrArg List.length h
      simp at this
      omega
    have hx : s[i]! = x := by
      have h0 : (s.data.toList.drop i)[0]? = some x := by rw [h]; rfl
      rw [List.getElem?_drop, Nat.add_zero] at h0
      rw [getElem!_pos s i hl]
      obtain ⟨h2, h3⟩ := List.getElem?_eq_some_iff.1 h0
      exact h3
    rw [List.drop_eq_getElem_cons (by simpa using hl), List.find?_cons]
    have hr : (List.range s.size)[i]'(by simpa using hl) = i := by simp
    rw [hr, hx, ← beq_u8]
    simp only [idxB]
    cases hb : Nat.beq x.toNat c.toNat with
    | true => rfl
    | false =>
      exact idxB_at s c l (i + 1) (by
        have := congrArg List.tail h
        simpa using this)
theorem idxB_eq (s : ByteArray) (c : UInt8) : idxB c.toNat s.data.toList 0 = firstIdx s c := by
  have := idxB_at s c s.data.toList 0 rfl
  rw [← this]
  unfold firstIdx
  rw [List.drop_zero]
  cases List.find? (fun i => s[i]! == c) (List.range s.size) <;> rfl
def u8 (n : Int) : Nat := Nat.mod (natB n) 256
theorem u8_eq (n : Int) : u8 n = n.toNat.toUInt8.toNat := by
  unfold u8
  rw [natB_eq]
  show n.toNat % 256 = _
  simp

/-- Counts of bytes. -/
def spCount (xs : List AV) : Option AV := match xs with
  | [.str s, .int .u8 c] => forceN (cntB (u8 c) s.data.toList) fun n => some (.int .i64 (.ofNat n))
  | _ => none
def spIndex (xs : List AV) : Option AV := match xs with
  | [.str s, .int .u8 c] => mkI .i64 (idxB (u8 c) s.data.toList 0)
  | _ => none
/-- What a slice of strings has. -/
def strsB : List (List AV) → Option (List (List UInt8))
  | [] => some []
  | l :: ls => match l with
    | [.str s] => match strsB ls with
      | some r => some (s.data.toList :: r)
      | none => none
    | _ => none
def rowsOfB (v : AV) (hp : List Obj) : Option (List (List AV)) := match v with
  | .sl _ enc sz _ xs => match Nat.beq sz 1 with
    | true => rowsB enc xs
    | false => none
  | .nils => some []
  | .rowf j ver => match nthL hp j with
    | some (.row _ enc sz _ xs ver') => match Nat.beq ver ver' && Nat.beq sz 1 with
      | true => rowsB enc xs
      | false => none
    | _ => none
  | _ => none
def joinS (sep : List UInt8) : List (List UInt8) → List UInt8
  | [] => []
  | x :: xs => match xs with
    | [] => x
    | y :: ys => x ++ (sep ++ joinS sep (y :: ys))
theorem joinS_eq (sep : List UInt8) : ∀ xs, joinS sep xs = Lib.join xs sep
  | [] => rfl
  | [x] => (Lib.join_one x sep).symm
  | x :: y :: ys => by
    rw [joinS, joinS_eq sep (y :: ys), Lib.join_cons, Lib.join_cons]
    simp [Lib.joinTail]
def spJoin (xs : List AV) (hp : List Obj) : Option (AV × List Obj) := match xs with
  | [v, .str sep] => match rowsOfB v hp with
    | some L => match strsB L with
      | some ss => match Nat.ble (lenB ss) 140737488355328 && Nat.ble (lenB (joinS sep.data.toList ss)) 140737488355328 with
        | true => match mkStr (joinS sep.data.toList ss) with
          | some r => some (r, hp)
          | none => none
        | false => none
      | none => none
    | none => none
  | _ => none

section
variable {P : Program} {T : Nat → TI}
theorem spCount_spec {f : FuncId} (h : ∀ (s : ByteArray) (c : Int), Spec0 P f [.str s, .int .u8 c] (.int .i64 (Lib.countByte s.data.toList c.toNat.toUInt8))) {xs : List AV} {hp hp' : List Obj} {r : AV} (he : (match spCount xs with | some v => some (v, hp) | none => none) = some (r, hp')) (K : AV → List Obj → Prop) (hk : K r hp') : CallS P f xs hp K := by
  split at he
  · rename_i v hv
    cases he
    unfold spCount at hv
    split at hv
    · rename_i s c
      rw [forceN_eq] at hv
      cases hv
      rw [u8_eq, cntB_eq] at hk
      exact CallS.of_spec0 rfl (h s c) hk
    · cases hv
  · cases he
theorem spIndex_spec {f : FuncId} (h : ∀ (s : ByteArray) (c : Int), Spec0 P f [.str s, .int .u8 c] (.int .i64 (firstIdx s c.toNat.toUInt8))) {xs : List AV} {hp hp' : List Obj} {r : AV} (he : (match spIndex xs with | some v => some (v, hp) | none => none) = some (r, hp')) (K : AV → List Obj → Prop) (hk : K r hp') : CallS P f xs hp K := by
  split at he
  · rename_i v hv
    cases he
    unfold spIndex at hv
    split at hv
    · rename_i s c
      rw [mkI_eq] at hv
      cases hv
      rw [u8_eq, idxB_eq] at hk
      exact CallS.of_spec0 rfl (h s c) hk
    · cases hv
  · cases he

theorem strsB_at : ∀ {L : List (List AV)} {ss : List (List UInt8)}, strsB L = some ss → L.length = ss.length ∧ ∀ (i : Nat) (x : List UInt8), ss[i]? = some x → L[i]? = some [.str (mkS x)]
  | [], ss, h => by cases h; exact ⟨rfl, fun i x h => by simp at h⟩
  | l :: ls, ss, h => by
    simp only [strsB] at h
    split at h
    · rename_i s
      split at h
      · rename_i r hr
        cases h
        obtain ⟨h1, h2⟩ := strsB_at hr
        refine ⟨by simp [h1], fun i x hx => ?_⟩
        cases i with
        | zero => simp at hx; subst hx; rfl
        | succ i => simpa using h2 i x (by simpa using hx)
      · cases h
    · cases h

/-- Joined strings, by the shelf's contracts. -/
theorem spJoin_spec {f : FuncId} {fn : Func} {c : Code} (hf : P.funcs[f]? = some fn) (hb : fn.body = some c) (hn : (fn.name == "runtime.NumGoroutine") = false)
    (h0 : ∀ (a : Option Addr) (c : Nat) (sep : ByteArray) (w : World), Calls P f #[.slice a 0 c, .string sep] w fun e w' => e = .returned (.string ⟨#[]⟩) ∧ w' = w)
    (h1 : ∀ (bk o c : Nat) (xs : List ByteArray) (sep : ByteArray) (w : World), (∀ (j : Nat) x, xs[j]? = some x → w.cell? ⟨bk, o + j, none⟩ = some (.string x)) → bk < w.heap.size → xs.length ≤ 140737488355328 → xs.length ≤ c →
      (Lib.join (xs.map (·.data.toList)) sep.data.toList).length ≤ 140737488355328 →
      Calls P f #[.slice (some ⟨bk, o, none⟩) xs.length c, .string sep] w fun e w' => e = .returned (.string ⟨(Lib.join (xs.map (·.data.toList)) sep.data.toList).toArray⟩) ∧ Go.RowKit.Below w.heap.size w w')
    {xs : List AV} {hp hp' : List Obj} {r : AV} (he : spJoin xs hp = some (r, hp')) (K : AV → List Obj → Prop) (hk : K r hp') : CallS P f xs hp K := by
  unfold spJoin at he
  split at he
  · rename_i v sep
    split at he
    · rename_i L hL
      split at he
      · rename_i ss hss
        split at he
        · rename_i hbd
          rw [mkStr_eq] at he
          cases he
          simp only [Bool.and_eq_true, lenB_eq] at hbd
          have hb1 := Nat.le_of_ble_eq_true hbd.1
          have hb2 := Nat.le_of_ble_eq_true hbd.2
          rw [joinS_eq] at hb2
          obtain ⟨hlen, hat⟩ := strsB_at hss
          intro X m w E vs hr hv
          obtain ⟨va, vb, rfl, hva, hvb⟩ : ∃ a b, vs = [a, b] ∧ VR w (SX X E hp) E v a ∧ VR w (SX X E hp) E (.str sep) b := by
            have hl := hv.1
            match vs, hl with
            | [a, b], _ => exact ⟨a, b, rfl, hv.2 0 _ _ rfl rfl, hv.2 1 _ _ rfl rfl⟩
          cases hvb
          -- the slice
          have key : ∃ (a : Option Addr) (cap : Nat), va = .slice a ss.length cap ∧ ss.length ≤ cap ∧ (0 < ss.length → ∃ bk o, a = some ⟨bk, o, none⟩ ∧ bk < w.heap.size ∧ ∀ (j : Nat) x, ss[j]? = some x → w.cell? ⟨bk, o + j, none⟩ = some (.string (mkS x))) := by
            unfold rowsOfB at hL
            split at hL
            · rename_i α enc sz d xs
              split at hL
              · rename_i hsz
                have hsz := Nat.eq_of_beq_eq_true hsz
                subst hsz
                rw [rowsB_eq] at hL
                cases hL
                cases hva with
                | @sl _ _ _ _ _ _ a n cap ad ff hnn hm hcp ha hsp hs hbb hsz hc hvv =>
                  rw [List.length_map] at hlen
                  refine ⟨a, cap, by rw [hnn, hlen], by omega, fun h0 => ?_⟩
                  obtain ⟨bk, o, sp⟩ := ad
                  simp only at hsp
                  subst hsp
                  refine ⟨bk, o, ha (by omega), hbb (by omega), fun j x hx => ?_⟩
                  have h2 := hat j x hx
                  rw [List.getElem?_map, Option.map_eq_some_iff] at h2
                  obtain ⟨y, hy, hye⟩ := h2
                  have hj := (List.getElem?_eq_some_iff.1 hx).1
                  have h3 := hc j 0 (by omega) (by omega)
                  have h4 := hvv j y 0 _ hy (by rw [hye]; rfl)
                  rw [str_inv h4] at h3
                  rw [show o + j = o + (j * 1 + 0) by omega]
                  exact h3
              · cases hL
            · cases hL
              cases hva with
              | nils =>
                have : ss = [] := List.eq_nil_of_length_eq_zero (by simpa using hlen.symm)
                subst this
                exact ⟨_, 0, rfl, Nat.le_refl _, fun h => absurd h (by simp)⟩
            · rename_i j ver
              split at hL
              · rename_i α enc sz d xs ver' hj
                rw [nthL_eq] at hj
                split at hL
                · rename_i hver
                  rw [Bool.and_eq_true] at hver
                  have hv1 := Nat.eq_of_beq_eq_true hver.1
                  have hsz := Nat.eq_of_beq_eq_true hver.2
                  subst hv1 hsz
                  rw [rowsB_eq] at hL
                  cases hL
                  rw [List.length_map] at hlen
                  cases hva with
                  | @rowf _ _ _ s a n cap hE hk2 hle hh =>
                    obtain ⟨k1, k2, k3, k4, k5, k6, k7, k8, k9⟩ := hr.obj j _ s hj hE
                    obtain ⟨rfl, rfl, q1, q2⟩ := hh k2
                    refine ⟨a, s.cap, by rw [k4, hlen], by omega, fun h0 => ?_⟩
                    cases hbs : s.b with
                    | none => have := k7 hbs; omega
                    | some b =>
                      obtain ⟨vs', t, e1, e2, e3⟩ := k9 b hbs
                      refine ⟨b, 0, q1 b hbs, hr.lt j _ s b hj rfl hE hbs, fun j' x hx => ?_⟩
                      have h2 := hat j' x hx
                      rw [List.getElem?_map, Option.map_eq_some_iff] at h2
                      obtain ⟨y, hy, hye⟩ := h2
                      obtain ⟨u, hu, hvr⟩ := e3 j' y 0 _ hy (by rw [hye]; rfl)
                      rw [str_inv hvr] at hu
                      simp only [World.cell?, e1, Nat.zero_add]
                      simpa using hu
                · cases hL
              · cases hL
            · cases hL
          obtain ⟨a, cap, rfl, hcap, hcells⟩ := key
          left
          constructor
          · simp only [callFunc, Sem.run_bind, run_program, Result.andThen_ok, hf, hn, Bool.false_eq_true, if_false, hb, Option.isNone_some, Sem.run_pure]
          · by_cases hz : ss.length = 0
            · have : ss = [] := List.eq_nil_of_length_eq_zero hz
              subst this
              refine (h0 a cap sep w).mono fun e w' ⟨he, hw⟩ => ⟨_, he, ?_⟩
              subst hw
              exact ⟨_, _, E, hk, hr, ⟨.refl _, FrameW.refl _ _, fun _ _ h => h⟩, .str⟩
            · obtain ⟨bk, o, rfl, hbk, hc⟩ := hcells (Nat.pos_of_ne_zero hz)
              have hmap : (ss.map mkS).map (·.data.toList) = ss := by
                rw [List.map_map]
                exact List.map_id'' (fun _ => rfl) ss
              have := h1 bk o cap (ss.map mkS) sep w (fun j x hx => by
                rw [List.getElem?_map, Option.map_eq_some_iff] at hx
                obtain ⟨y, hy, rfl⟩ := hx
                exact hc j y hy) hbk (by simpa using hb1) (by simpa using hcap) (by rw [hmap]; exact hb2)
              rw [List.length_map, hmap] at this
              refine this.mono fun e w' ⟨he, hw⟩ => ⟨_, he, ?_⟩
              rw [joinS_eq] at hk
              exact ⟨_, _, E, hk, hr.grow (FrameW.of_below hw), ⟨.refl _, (FrameW.of_below (S := fun _ => False) hw).mono fun _ _ h => h.elim, fun _ _ h => h⟩, .str⟩
        · cases he
      · cases he
    · cases he
  · cases he
end
end
end Go.Mir
