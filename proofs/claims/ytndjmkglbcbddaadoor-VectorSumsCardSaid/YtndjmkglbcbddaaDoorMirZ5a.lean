/- A quick look whether a region's operations may be exchanged. No condition. -/
import Derived.Test.YtndjmkglbcbddaaDoorMirZ4
set_option linter.unusedVariables false
namespace Go.Mir
noncomputable section

def bitB (m k : Nat) : Bool := Bool.not (Nat.beq (Nat.land 1 (Nat.shiftRight m k)) 0)
theorem bitB_eq (m k : Nat) : bitB m k = m.testBit k := by
  unfold bitB Nat.testBit
  have : (Nat.land 1 (Nat.shiftRight m k)) = 1 &&& (m >>> k) := rfl
  rw [this]
  cases h : (1 &&& m >>> k) with
  | zero => rfl
  | succ n => rfl
def bitsB (l : List Nat) : Nat := List.rec (motive := fun _ => Nat) 0 (fun t _ ih => Nat.lor (Nat.shiftLeft 1 t) ih) l
theorem bitsB_mem : ∀ {l : List Nat} {t : Nat}, t ∈ l → (bitsB l).testBit t = true
  | [], t, h => by cases h
  | x :: l, t, h => by
    show ((1 <<< x) ||| bitsB l).testBit t = true
    rw [Nat.testBit_or, Bool.or_eq_true]
    rcases List.mem_cons.1 h with rfl | h
    · left
      simp
    · exact .inr (bitsB_mem h)
def disjB (a b : Nat) : Bool := Nat.beq (Nat.land a b) 0
theorem disjB_spec {a b t : Nat} (h : disjB a b = true) (ha : a.testBit t = true) (hb : b.testBit t = true) : False := by
  have h : a &&& b = 0 := Nat.eq_of_beq_eq_true h
  have : (a &&& b).testBit t = true := by rw [Nat.testBit_and, ha, hb]; rfl
  rw [h] at this
  simp at this

structure Bi where
  k : Nat
  d : Nat
  l : Nat
  w : Nat
  r : Nat
def dstB (o : Oper) : Nat := match o.dst with
  | none => 0
  | some d => Nat.shiftLeft 1 d
def biOf (dsts : List (Option Nat)) (k : Nat) (o : Oper) (e : Eff) : Bi := ⟨k, dstB o, bitsB (looksL dsts o), bitsB (e.wr.map (·.1)), bitsB e.rd⟩
def pairB (anc : Nat) (a b : Bi) : Bool := match bitB anc a.k with
  | true => true
  | false => disjB a.d (Nat.lor b.l b.d) && disjB b.d a.l && disjB a.w (Nat.lor b.r b.w) && disjB b.w a.r
def pairsB (anc : Nat) (b : Bi) : List Bi → Bool
  | [] => true
  | a :: r => match pairB anc a b with
    | true => pairsB anc b r
    | false => false
def ltAll (i : Nat) : List Nat → Bool
  | [] => true
  | k :: l => match Nat.blt k i with
    | true => ltAll i l
    | false => false
def memB (x : Nat) : List (Nat × Obj) → Bool
  | [] => false
  | (j, _) :: l => match Nat.beq x j with
    | true => true
    | false => memB x l
def newB (x : Nat) (nw : Nat) (wr : List (Nat × Obj)) : Bool := match nw with
  | 0 => true
  | _ + 1 => memB x wr
def bernGo (dsts : List (Option Nat)) (ms : List Nat) : List Oper → List Eff → Nat → Nat → List Bi → Bool
  | [], _, _, _, _ => true
  | _ :: _, [], _, _, _ => false
  | o :: os, e :: es, i, na, prev => match ltAll i (preds o) with
    | true => match newB na (news o.op) e.wr with
      | true => match pairsB (match nthL ms i with | some m => m | none => 0) (biOf dsts i o e) prev with
        | true => bernGo dsts ms os es (Nat.succ i) (Nat.add na (news o.op)) (biOf dsts i o e :: prev)
        | false => false
      | false => false
    | false => false
def bernB (ops : List Oper) (dsts : List (Option Nat)) (n : Nat) (es : List Eff) : Bool := bernGo dsts (masks ops) ops es 0 n []

theorem dstB_spec {o : Oper} {d : Nat} (h : o.dst = some d) : (dstB o).testBit d = true := by
  unfold dstB
  rw [h]
  show (1 <<< d).testBit d = true
  simp
theorem pairB_spec {dsts : List (Option Nat)} {anc k i : Nat} {o o' : Oper} {e e' : Eff} (h : pairB anc (biOf dsts k o' e') (biOf dsts i o e) = true) : anc.testBit k = true ∨ indep dsts o' e' o e = true := by
  unfold pairB at h
  split at h
  · rename_i hb
    rw [bitB_eq] at hb
    exact .inl hb
  · right
    simp only [Bool.and_eq_true, biOf] at h
    obtain ⟨⟨⟨h1, h2⟩, h3⟩, h4⟩ := h
    have hor : ∀ {a b t : Nat}, (a.testBit t = true ∨ b.testBit t = true) → (Nat.lor a b).testBit t = true := by
      intro a b t h
      show (a ||| b).testBit t = true
      rw [Nat.testBit_or, Bool.or_eq_true]
      exact h
    simp only [indep, Bool.and_eq_true, List.all_eq_true]
    refine ⟨⟨⟨?_, ?_⟩, fun j hj => ⟨?_, ?_⟩⟩, fun j hj => ?_⟩
    · cases hd : o'.dst with
      | none => rfl
      | some d =>
        have hd' := dstB_spec hd
        simp only [Bool.and_eq_true, Bool.not_eq_true', List.contains_eq_mem, decide_eq_false_iff_not, bne_iff_ne, ne_eq]
        exact ⟨fun hm => disjB_spec h1 hd' (hor (.inl (bitsB_mem hm))), fun hm => disjB_spec h1 hd' (hor (.inr (dstB_spec hm)))⟩
    · cases hd : o.dst with
      | none => rfl
      | some d =>
        have hd' := dstB_spec hd
        simp only [Bool.not_eq_true', List.contains_eq_mem, decide_eq_false_iff_not]
        exact fun hm => disjB_spec h2 hd' (bitsB_mem hm)
    · simp only [Bool.not_eq_true', List.contains_eq_mem, decide_eq_false_iff_not]
      exact fun hm => disjB_spec h3 (bitsB_mem hj) (hor (.inl (bitsB_mem hm)))
    · simp only [Bool.not_eq_true', List.contains_eq_mem, decide_eq_false_iff_not]
      exact fun hm => disjB_spec h3 (bitsB_mem hj) (hor (.inr (bitsB_mem hm)))
    · simp only [Bool.not_eq_true', List.contains_eq_mem, decide_eq_false_iff_not]
      exact fun hm => disjB_spec h4 (bitsB_mem hj) (bitsB_mem hm)
theorem pairsB_spec {anc : Nat} {b : Bi} : ∀ {l : List Bi}, pairsB anc b l = true → ∀ a ∈ l, pairB anc a b = true
  | [], h, a, ha => by cases ha
  | x :: l, h, a, ha => by
    simp only [pairsB] at h
    split at h
    · rename_i h1
      rcases List.mem_cons.1 ha with rfl | ha
      · exact h1
      · exact pairsB_spec h a ha
    · cases h
theorem ltAll_spec {i : Nat} : ∀ {l : List Nat}, ltAll i l = true → l.all (fun k => Nat.blt k i) = true
  | [], h => rfl
  | k :: l, h => by
    simp only [ltAll] at h
    split at h
    · rename_i h1
      simp only [List.all_cons, h1, Bool.true_and]
      exact ltAll_spec h
    · cases h
theorem memB_spec {x : Nat} : ∀ {l : List (Nat × Obj)}, memB x l = true → (l.map (·.1)).contains x = true
  | [], h => by cases h
  | (j, o) :: l, h => by
    simp only [memB] at h
    split at h
    · rename_i h1
      have := Nat.eq_of_beq_eq_true h1
      subst this
      simp
    · have := memB_spec h
      simp only [List.map_cons, List.contains_cons, this, Bool.or_true]
theorem bernGo_spec {ops : List Oper} {dsts : List (Option Nat)} {n : Nat} {es : List Eff} : ∀ (os : List Oper) (fs : List Eff) (i na : Nat) (prev : List Bi), ops.drop i = os → es.drop i = fs → na = n + newsAt ops i →
    (∀ k o e, k < i → ops[k]? = some o → es[k]? = some e → biOf dsts k o e ∈ prev) → bernGo dsts (masks ops) os fs i na prev = true →
    ∀ j, i ≤ j → j < ops.length → (match ops[j]?, es[j]? with
    | some o, some e => (preds o).all (fun k => Nat.blt k j) && (news o.op == 0 || (e.wr.map (·.1)).contains (n + newsAt ops j)) &&
      (List.range j).all fun k => ((masks ops).getD j 0).testBit k || match ops[k]?, es[k]? with
        | some o', some e' => indep dsts o' e' o e
        | _, _ => false
    | _, _ => false) = true
  | [], fs, i, na, prev, h1, h2, h3, h4, h5, j, hj, hl => by
    have := congrArg List.length h1
    simp at this
    omega
  | o :: os, [], i, na, prev, h1, h2, h3, h4, h5, j, hj, hl => by cases h5
  | o :: os, e :: fs, i, na, prev, h1, h2, h3, h4, h5, j, hj, hl => by
    have ho : ops[i]? = some o := by
      have : (ops.drop i)[0]? = some o := by rw [h1]; rfl
      simpa using this
    have he : es[i]? = some e := by
      have : (es.drop i)[0]? = some e := by rw [h2]; rfl
      simpa using this
    simp only [bernGo] at h5
    split at h5
    · rename_i a1
      split at h5
      · rename_i a2
        split at h5
        · rename_i a3
          have hnews : Nat.add na (news o.op) = n + newsAt ops (i + 1) := by
            have e : ops.take (i + 1) = ops.take i ++ [o] := by
              rw [List.take_add_one, ho]; rfl
            show na + news o.op = _
            rw [h3]
            simp only [newsAt, e, List.map_append, List.sum_append]
            simp
            omega
          by_cases hij : i = j
          · subst hij
            rw [ho, he]
            simp only [Bool.and_eq_true, List.all_eq_true, List.mem_range]
            refine ⟨⟨List.all_eq_true.1 (ltAll_spec a1), ?_⟩, fun k hk => ?_⟩
            · unfold newB at a2
              split at a2
              · rename_i h0
                rw [h0]
                rfl
              · rw [Bool.or_eq_true]
                right
                rw [← h3]
                exact memB_spec a2
            · have hko : k < ops.length := by omega
              have hlen : i < es.length := (List.getElem?_eq_some_iff.1 he).1
              have hke : k < es.length := by omega
              have e1 : ops[k]? = some ops[k] := by simp [hko]
              have e2 : es[k]? = some es[k] := by simp [hke]
              have hm := h4 k _ _ hk e1 e2
              have hp := pairsB_spec a3 _ hm
              rw [e1, e2, Bool.or_eq_true]
              have hanc : (match nthL (masks ops) i with | some m => m | none => 0) = (masks ops).getD i 0 := by
                rw [nthL_eq, List.getD_eq_getElem?_getD]
                cases (masks ops)[i]? <;> rfl
              rw [hanc] at hp
              exact pairB_spec hp
          · refine bernGo_spec os fs (i + 1) _ _ ?_ ?_ hnews (fun k o2 e2 hk g1 g2 => ?_) h5 j (by omega) hl
            · have := congrArg List.tail h1
              simpa using this
            · have := congrArg List.tail h2
              simpa using this
            · by_cases hki : k = i
              · subst hki
                rw [ho] at g1
                rw [he] at g2
                cases g1
                cases g2
                simp
              · exact List.mem_cons_of_mem _ (h4 k o2 e2 (by omega) g1 g2)
        · cases h5
      · cases h5
    · cases h5
theorem bernB_spec {ops : List Oper} {dsts : List (Option Nat)} {n : Nat} {es : List Eff} (h : bernB ops dsts n es = true) : bern ops dsts n es = true := by
  unfold bern
  rw [List.all_eq_true]
  intro j hj
  exact bernGo_spec ops es 0 n [] rfl rfl (by simp [newsAt]) (fun k o e hk => by omega) h j (Nat.zero_le _) (List.mem_range.1 hj)
end
end Go.Mir
