/- A region that draws its order comes to what the text's order comes to. No condition. -/
import Derived.Test.YtndjmkglbcbddaaDoorMirQ
set_option linter.unusedVariables false
namespace Go.Mir
universe u

theorem runD_take {β : Type u} (i : Nat) : ∀ (L : List (List (Nat × β))) (k : Nat) (l : List β), k ≤ i → runD (fun _ => true) k (L.take (i - k)) l = runD (fun j => decide (j < i)) k L l
  | [], k, l, h => by simp [runD]
  | ps :: L, k, l, h => by
    by_cases e : k = i
    · subst e
      simp only [Nat.sub_self, List.take_zero]
      have : ∀ (L : List (List (Nat × β))) (k' : Nat) (l : List β), k ≤ k' → runD (fun j => decide (j < k)) k' L l = l := by
        intro L
        induction L with
        | nil => intro k' l h; rfl
        | cons q L ih =>
          intro k' l h
          simp only [runD]
          rw [if_neg (by simp; exact h)]
          exact ih (k' + 1) l (by omega)
      rw [this _ k l (Nat.le_refl _)]
      rfl
    · rw [show i - k = (i - (k + 1)) + 1 by omega, List.take_succ_cons]
      simp only [runD, if_true]
      rw [if_pos (by simp; omega)]
      exact runD_take i L (k + 1) _ (by omega)

theorem runD_full {β : Type u} {D : Nat → Bool} {L : List (List (Nat × β))} {l : List β} (h : ∀ k, k < L.length → D k = true) : runD D 0 L l = runD (fun _ => true) 0 L l := by
  apply List.ext_getElem?
  intro t
  refine runD_congr t L 0 l l rfl rfl fun i ps h1 _ => ?_
  rw [Nat.zero_add]
  exact h i (List.getElem?_eq_some_iff.1 h1).1

section
variable {P : Program} {T : Nat → TI} {X : Nat → Prop} {m : Nat}

theorem bern_spec {ops : List Oper} {dsts : List (Option Nat)} {n : Nat} {es : List Eff} (h : bern ops dsts n es = true) {i : Nat} {o : Oper} {e : Eff} (ho : ops[i]? = some o) (he : es[i]? = some e) :
    (∀ k ∈ preds o, k < i) ∧ (news o.op ≠ 0 → n + newsAt ops i ∈ e.wr.map (·.1)) ∧
    ∀ (k : Nat) o' e', k < i → ops[k]? = some o' → es[k]? = some e' → ((masks ops).getD i 0).testBit k = true ∨ indep dsts o' e' o e = true := by
  have hi := (List.getElem?_eq_some_iff.1 ho).1
  have := List.all_eq_true.1 h i (List.mem_range.2 hi)
  simp only [ho, he, Bool.and_eq_true, Bool.or_eq_true, List.all_eq_true] at this
  obtain ⟨⟨h1, h2⟩, h3⟩ := this
  refine ⟨fun k hk => Nat.le_of_ble_eq_true (h1 k hk), fun hn => ?_, fun k o' e' hk ho' he' => ?_⟩
  · rcases h2 with h2 | h2
    · exact absurd (by simpa using h2) hn
    · simpa using h2
  · have := h3 k (List.mem_range.2 hk)
    simp only [ho', he'] at this
    exact this

theorem indep_spec {dsts : List (Option Nat)} {o o' : Oper} {e e' : Eff} (h : indep dsts o e o' e' = true) :
    (∀ d, o.dst = some d → d ∉ looksL dsts o' ∧ o'.dst ≠ some d) ∧ (∀ d, o'.dst = some d → d ∉ looksL dsts o) ∧ (∀ j ∈ e.wr.map (·.1), j ∉ e'.rd ∧ j ∉ e'.wr.map (·.1)) ∧ ∀ j ∈ e'.wr.map (·.1), j ∉ e.rd := by
  simp only [indep, Bool.and_eq_true, List.all_eq_true] at h
  obtain ⟨⟨⟨h1, h2⟩, h3⟩, h4⟩ := h
  refine ⟨fun d hd => ?_, fun d hd => ?_, fun j hj => ?_, fun j hj => ?_⟩
  · rw [hd] at h1
    simpa using h1
  · rw [hd] at h2
    simpa using h2
  · have := h3 j hj
    exact ⟨by have := this.1; simp only [Bool.not_eq_true', List.contains_eq_mem, decide_eq_false_iff_not] at this; exact this, by have := this.2; simp only [Bool.not_eq_true', List.contains_eq_mem, decide_eq_false_iff_not] at this; exact this⟩
  · have := h4 j hj
    simp only [Bool.not_eq_true', List.contains_eq_mem, decide_eq_false_iff_not] at this
    exact this

theorem newsAt_lt {ops : List Oper} {k i : Nat} {o : Oper} (hk : k < i) (ho : ops[k]? = some o) : newsAt ops k + news o.op ≤ newsAt ops i := by
  have hkl := (List.getElem?_eq_some_iff.1 ho).1
  have e : ops.take (k + 1) = ops.take k ++ [o] := by
    rw [List.take_add_one, ho]; rfl
  have h1 : newsAt ops (k + 1) = newsAt ops k + news o.op := by
    simp only [newsAt, e, List.map_append, List.sum_append]
    simp
  have h2 : ∀ d, newsAt ops (k + 1) ≤ newsAt ops (k + 1 + d) := by
    intro d
    induction d with
    | zero => exact Nat.le_refl _
    | succ d ih =>
      refine Nat.le_trans ih ?_
      simp only [newsAt]
      rw [show k + 1 + (d + 1) = (k + 1 + d) + 1 by omega, List.take_add_one]
      simp
  have := h2 (i - (k + 1))
  rw [show k + 1 + (i - (k + 1)) = i by omega] at this
  omega

set_option maxHeartbeats 1000000 in
theorem any_sound (hT : TOk P T) {ops : Array Oper} {dsts : List (Option Nat)} (hds : dsts = dstsOf ops.toList) {cs : List AV} {es : List Eff} (hcl : cs.length = ops.toList.length) (hel : es.length = ops.toList.length)
    {fr : List AV} {hp : List Obj} {n : Nat} (hb : bern ops.toList dsts n es = true)
    (hout : ∀ (i : Nat) o c e, ops.toList[i]? = some o → cs[i]? = some c → es[i]? = some e →
        Out P T dsts o (runD (fun _ => true) 0 ((List.zipWith (fun (o : Oper) c => dstL o.dst c) ops.toList cs).take i) fr) (runD (fun _ => true) 0 ((es.map (·.wr)).take i) hp) (n + newsAt ops.toList i) c e ∧
        (∀ p ∈ e.wr, p.1 < hp.length ∧ p.1 < n + newsAt ops.toList i + news o.op) ∧ (∀ d, o.dst = some d → d < fr.length))
    {w0 : World} {E0 : List Slot} (hroom0 : Room n E0 hp) {Q : Exit → Act → World → Prop}
    (hq : ∀ a' w' E', SR w' X m a' E' ⟨runD (fun _ => true) 0 (List.zipWith (fun (o : Oper) c => dstL o.dst c) ops.toList cs) fr, runD (fun _ => true) 0 (es.map (·.wr)) hp⟩ → Goes w0 E0 hp w' E' (runD (fun _ => true) 0 (es.map (·.wr)) hp) → Q .normal a' w') :
    ∀ (fuel : Nat) (listed : Array Bool) (a : Act) (w : World) (E : List Slot), listed.size = ops.size → listed.toList.count false ≤ fuel →
      (∀ (i : Nat) o k, listed.getD i false = true → ops.toList[i]? = some o → k ∈ preds o → listed.getD k false = true) →
      SR w X m a E ⟨runD (fun i => listed.getD i false) 0 (List.zipWith (fun (o : Oper) c => dstL o.dst c) ops.toList cs) fr, runD (fun i => listed.getD i false) 0 (es.map (·.wr)) hp⟩ →
      Goes w0 E0 hp w E (runD (fun i => listed.getD i false) 0 (es.map (·.wr)) hp) →
      (∀ j, n ≤ j → j < hp.length → (∀ (i : Nat) e, listed.getD i false = true → es[i]? = some e → j ∉ e.wr.map (·.1)) → E[j]? = some Slot.none) →
      wpAny P .any ops Q fuel listed a w := by
  -- where nothing is ready all is done
  have done : ∀ (listed : Array Bool), listed.size = ops.size → Region.ready .any ops listed = [] → ∀ i, i < ops.size → listed.getD i false = true := by
    intro listed hsz hr i
    induction i using Nat.strongRecOn with
    | _ i ih =>
      intro hi
      cases hd : listed.getD i false with
      | true => rfl
      | false =>
        exfalso
        have hoi : ops[i]? = some ops[i] := by simp [hi]
        have hei : es[i]? = some (es[i]'(by rw [hel]; simpa using hi)) := by simp
        have hmem : i ∈ Region.ready .any ops listed := by
          simp only [Region.ready, List.mem_filter, List.mem_range]
          refine ⟨hi, ?_⟩
          rw [Bool.and_eq_true]
          constructor
          · have : listed.getD i true = listed.getD i false := by simp [Array.getD, hsz, hi]
            rw [this, hd]
            rfl
          · simp only [hoi, Option.map_some, Option.getD_some, Array.all_eq_true_iff_forall_mem]
            intro ed hed
            rw [Bool.or_eq_true]
            cases hbd : Region.binds .any ed with
            | false => exact .inl rfl
            | true =>
              refine .inr ?_
              have hp' : ed.on ∈ preds ops[i] := by
                simp only [preds, List.mem_map, List.mem_filter]
                exact ⟨ed, ⟨by simpa using hed, hbd⟩, rfl⟩
              have hlt := (bern_spec hb (by simp [hoi]) hei).1 _ hp'
              exact ih _ hlt (by omega)
        rw [hr] at hmem
        cases hmem
  have fin : ∀ (listed : Array Bool) (a : Act) (w : World) (E : List Slot), listed.size = ops.size → Region.ready .any ops listed = [] →
      SR w X m a E ⟨runD (fun i => listed.getD i false) 0 (List.zipWith (fun (o : Oper) c => dstL o.dst c) ops.toList cs) fr, runD (fun i => listed.getD i false) 0 (es.map (·.wr)) hp⟩ →
      Goes w0 E0 hp w E (runD (fun i => listed.getD i false) 0 (es.map (·.wr)) hp) → Q .normal a w := by
    intro listed a w E hsz hr hs hg
    have hall := done listed hsz hr
    have e1 := runD_full (D := fun i => listed.getD i false) (L := List.zipWith (fun (o : Oper) c => dstL o.dst c) ops.toList cs) (l := fr) (fun k hk => hall k (by simp at hk; omega))
    have e2 := runD_full (D := fun i => listed.getD i false) (L := es.map (·.wr)) (l := hp) (fun k hk => hall k (by simp at hk; have := hel; simp at this; omega))
    rw [e1, e2] at hs
    rw [e2] at hg
    exact hq a w E hs hg
  intro fuel
  induction fuel with
  | zero =>
    intro listed a w E hsz hc hcls hs hg hroom
    have hr : Region.ready .any ops listed = [] := by
      rw [Region.ready, List.filter_eq_nil_iff]
      intro i hi
      have hi' : i < listed.size := by rw [hsz]; exact List.mem_range.1 hi
      have : listed[i] = true := by
        cases h : listed[i] with
        | true => rfl
        | false =>
          have h0 : List.count false listed.toList = 0 := by omega
          have := List.count_eq_zero.1 h0
          exact absurd (by rw [← h]; simp) this
      simp [Array.getD, hi', this]
    exact ⟨hr, fin listed a w E hsz hr hs hg⟩
  | succ fuel ih =>
    intro listed a w E hsz hc hcls hs hg hroom
    refine ⟨fun hr => fin listed a w E hsz hr hs hg, fun i hi => ?_⟩
    simp only [Region.ready, List.mem_filter, List.mem_range, Bool.and_eq_true] at hi
    obtain ⟨hi, hni, hpr⟩ := hi
    have hil : i < listed.size := by rw [hsz]; exact hi
    have hDi : listed.getD i false = false := by
      have : listed.getD i false = listed.getD i true := by simp [Array.getD, hil]
      rw [this]
      simpa using hni
    have hoi : ops.toList[i]? = some ops[i] := by simp [hi]
    have hoi' : ops[i]? = some ops[i] := by simp [hi]
    generalize hoo : ops[i] = o at hoi hoi'
    obtain ⟨c, hci⟩ : ∃ c, cs[i]? = some c := ⟨cs[i]'(by rw [hcl]; simpa using hi), by simp⟩
    obtain ⟨e, hei⟩ : ∃ e, es[i]? = some e := ⟨es[i]'(by rw [hel]; simpa using hi), by simp⟩
    obtain ⟨b1, b2, b3⟩ := bern_spec hb hoi hei
    obtain ⟨o1, o2, o3⟩ := hout i o c e hoi hci hei
    have hpd : ∀ k ∈ preds o, listed.getD k false = true := by
      intro k hk
      simp only [preds, List.mem_map, List.mem_filter] at hk
      obtain ⟨ed, ⟨h1, h2⟩, rfl⟩ := hk
      rw [hoi'] at hpr
      simp only [Option.map_some, Option.getD_some, Array.all_eq_true_iff_forall_mem] at hpr
      have := hpr ed (by simpa using h1)
      rw [h2] at this
      simpa using this
    -- what is ordered with i
    have lo : ∀ (k : Nat) o' e', k < i → ops.toList[k]? = some o' → es[k]? = some e' → listed.getD k false = true ∨ indep dsts o' e' o e = true := by
      intro k o' e' hk h1 h2
      rcases b3 k o' e' hk h1 h2 with h | h
      · exact .inl (masks_done (D := fun i => listed.getD i false) hcls i o hoi hpd k h)
      · exact .inr h
    have up : ∀ (k : Nat) o' e', i < k → ops.toList[k]? = some o' → es[k]? = some e' → listed.getD k false = true → indep dsts o e o' e' = true := by
      intro k o' e' hk h1 h2 hd
      rcases (bern_spec hb h1 h2).2.2 i o e hk hoi hei with h | h
      · have := masks_done (D := fun i => listed.getD i false) hcls k o' h1 (fun k' hk' => hcls k o' k' hd h1 hk') i h
        simp only [hDi] at this
        cases this
      · exact h
    have at1 : ∀ (k : Nat) ps, (List.zipWith (fun (o : Oper) c => dstL o.dst c) ops.toList cs)[k]? = some ps → ∃ o' c', ops.toList[k]? = some o' ∧ cs[k]? = some c' ∧ ps = dstL o'.dst c' := by
      intro k ps h
      rw [List.getElem?_zipWith] at h
      split at h
      · rename_i o' c' h1 h2
        cases h
        exact ⟨o', c', h1, h2, rfl⟩
      · cases h
    have at2 : ∀ (k : Nat) ps, (es.map (·.wr))[k]? = some ps → ∃ e', es[k]? = some e' ∧ ps = e'.wr := by
      intro k ps h
      rw [List.getElem?_map, Option.map_eq_some_iff] at h
      obtain ⟨e', h1, rfl⟩ := h
      exact ⟨e', h1, rfl⟩
    have opAt : ∀ (k : Nat) e', es[k]? = some e' → ∃ o', ops.toList[k]? = some o' := by
      intro k e' h
      have := (List.getElem?_eq_some_iff.1 h).1
      exact ⟨ops.toList[k]'(by rw [← hel]; exact this), by simp⟩
    have eAt : ∀ (k : Nat) o', ops.toList[k]? = some o' → ∃ e', es[k]? = some e' := by
      intro k o' h
      have := (List.getElem?_eq_some_iff.1 h).1
      exact ⟨es[k]'(by rw [hel]; exact this), by simp⟩
    have dkey : ∀ {t : Nat} {o' : Oper} {c' : AV}, t ∈ (dstL o'.dst c').map (·.1) → o'.dst = some t := by
      intro t o' c' h
      unfold dstL at h
      split at h
      · simp at h
      · simp at h; subst h; assumption
    have hgd := o1 (runD (fun i => listed.getD i false) 0 (List.zipWith (fun (o : Oper) c => dstL o.dst c) ops.toList cs) fr) (runD (fun i => listed.getD i false) 0 (es.map (·.wr)) hp)
      (by rw [runD_length, runD_length]) (by rw [runD_length, runD_length])
      (fun t ht => by
        have e1 := runD_take i (List.zipWith (fun (o : Oper) c => dstL o.dst c) ops.toList cs) 0 fr (Nat.zero_le _)
        rw [Nat.sub_zero] at e1
        rw [e1]
        refine runD_congr t _ 0 fr fr rfl rfl fun k ps h1 h2 => ?_
        rw [Nat.zero_add]
        obtain ⟨o', c', h3, h4, rfl⟩ := at1 k ps h1
        have hd := dkey h2
        obtain ⟨e', h5⟩ := eAt k o' h3
        rcases Nat.lt_trichotomy k i with h | h | h
        · rw [decide_eq_true h]
          rcases lo k o' e' h h3 h5 with h' | h'
          · exact h'
          · exact absurd ht ((indep_spec h').1 t hd).1
        · subst h
          rw [hDi]
          simp
        · rw [decide_eq_false (by omega)]
          cases hdk : listed.getD k false with
          | false => rfl
          | true => exact absurd ht ((indep_spec (up k o' e' h h3 h5 hdk)).2.1 t hd))
      (fun j hj => by
        have e1 := runD_take i (es.map (·.wr)) 0 hp (Nat.zero_le _)
        rw [Nat.sub_zero] at e1
        rw [e1]
        refine runD_congr j _ 0 hp hp rfl rfl fun k ps h1 h2 => ?_
        rw [Nat.zero_add]
        obtain ⟨e', h5, rfl⟩ := at2 k ps h1
        obtain ⟨o', h3⟩ := opAt k e' h5
        rcases Nat.lt_trichotomy k i with h | h | h
        · rw [decide_eq_true h]
          rcases lo k o' e' h h3 h5 with h' | h'
          · exact h'
          · exact absurd hj ((indep_spec h').2.2.1 j h2).1
        · subst h
          rw [hDi]
          simp
        · rw [decide_eq_false (by omega)]
          cases hdk : listed.getD k false with
          | false => rfl
          | true => exact absurd hj ((indep_spec (up k o' e' h h3 h5 hdk)).2.2.2 j h2))
    obtain ⟨c', val, wr, rd, ⟨hc1, hc2, hc3, hc4⟩, hstep⟩ := op_step hT hds hoi' hs (n := n + newsAt ops.toList i) (fun hnew hlt => by
      rw [runD_length] at hlt
      have hin := b2 hnew
      have hno : ∀ (k : Nat) e', listed.getD k false = true → es[k]? = some e' → n + newsAt ops.toList i ∉ e'.wr.map (·.1) := by
        intro k e' hd h5 hmem
        obtain ⟨o', h3⟩ := opAt k e' h5
        rcases Nat.lt_trichotomy k i with h | h | h
        · obtain ⟨cc, hcc⟩ : ∃ c, cs[k]? = some c := ⟨cs[k]'(by rw [hcl]; exact (List.getElem?_eq_some_iff.1 h3).1), by simp⟩
          obtain ⟨p, hp1, hp2⟩ := List.mem_map.1 hmem
          have := ((hout k o' cc e' h3 hcc h5).2.1 p hp1).2
          have := newsAt_lt h h3
          omega
        · subst h
          rw [hDi] at hd
          cases hd
        · exact ((indep_spec (up k o' e' h h3 h5 hd)).2.2.1 _ hin).2 hmem
      refine ⟨?_, hroom _ (by omega) hlt fun k e' hd h5 => hno k e' hd h5⟩
      rw [runD_none (D := fun i => listed.getD i false) _ _ 0 hp fun k ps h1 h2 => ?_]
      · exact (hroom0 _ (by omega) hlt).1
      · rw [Nat.zero_add]
        obtain ⟨e', h5, rfl⟩ := at2 k ps h1
        cases hd : listed.getD k false with
        | false => rfl
        | true => exact absurd h2 (hno k e' hd h5)) hgd
    refine hstep _ Q fun a' w' E' hs' hg' hE' => ?_
    have hD' : ∀ k, (listed.setIfInBounds i true).getD k false = (listed.getD k false || k == i) := by
      intro k
      simp only [Array.getD_eq_getD_getElem?, Array.getElem?_setIfInBounds]
      by_cases e : i = k
      · subst e
        simp [hil]
      · rw [if_neg e]
        have : (k == i) = false := by simp; omega
        rw [this, Bool.or_false]
    have r1 : setO (runD (fun i => listed.getD i false) 0 (List.zipWith (fun (o : Oper) c => dstL o.dst c) ops.toList cs) fr) o.dst c' = runD (fun k => (listed.setIfInBounds i true).getD k false) 0 (List.zipWith (fun (o : Oper) c => dstL o.dst c) ops.toList cs) fr := by
      rw [setO_eq, hc1]
      refine runD_add (by rw [List.getElem?_zipWith, hoi, hci]) hD' fun k qs t hd h1 h2 h3 => ?_
      obtain ⟨o', c'', h4, h5, rfl⟩ := at1 k qs h1
      obtain ⟨e', h6⟩ := eAt k o' h4
      have d1 := dkey h2
      have d2 := dkey h3
      rcases Nat.lt_trichotomy k i with h | h | h
      · exact h
      · subst h
        rw [hDi] at hd
        cases hd
      · exact absurd d1 ((indep_spec (up k o' e' h h4 h6 hd)).1 t d2).2
    have r2 : updl (runD (fun i => listed.getD i false) 0 (es.map (·.wr)) hp) wr = runD (fun k => (listed.setIfInBounds i true).getD k false) 0 (es.map (·.wr)) hp := by
      rw [updl_eq, hc3]
      refine runD_add (by rw [List.getElem?_map, hei]; rfl) hD' fun k qs t hd h1 h2 h3 => ?_
      obtain ⟨e', h6, rfl⟩ := at2 k qs h1
      obtain ⟨o', h4⟩ := opAt k e' h6
      rcases Nat.lt_trichotomy k i with h | h | h
      · exact h
      · subst h
        rw [hDi] at hd
        cases hd
      · exact absurd h2 ((indep_spec (up k o' e' h h4 h6 hd)).2.2.1 t h3).2
    rw [r1, r2] at hs'
    rw [r2] at hg'
    refine ih (listed.setIfInBounds i true) a' w' E' (by simp [hsz]) ?_ (fun k o' k' hd h1 h2 => ?_) hs' (hg.trans hg') (fun j hj hl hno => ?_)
    · have hlt : i < listed.toList.length := by simpa using hil
      have := List.count_set (a := true) (b := false) hlt
      rw [Array.toList_setIfInBounds, this]
      have hli : listed.toList[i] = false := by
        have : listed.getD i false = listed.toList[i] := by simp [Array.getD, hil]
        rw [← this]
        exact hDi
      have hpos : 0 < listed.toList.count false := List.count_pos_iff.2 (by rw [← hli]; exact List.getElem_mem hlt)
      rw [hli, if_pos (show (false == false) = true from rfl), if_neg (show ¬ (true == false) = true by decide)]
      omega
    · rw [hD'] at hd ⊢
      rw [Bool.or_eq_true] at hd ⊢
      refine .inl ?_
      rcases hd with hd | hd
      · exact hcls k o' k' hd h1 h2
      · have : k = i := by simpa using hd
        subst this
        rw [hoi] at h1
        cases h1
        exact hpd k' h2
    · have hji : j ∉ e.wr.map (·.1) := hno i e (by rw [hD']; simp) hei
      rw [hE' j fun p hp hpj => hji (by rw [← hc3]; exact List.mem_map.2 ⟨p, hp, hpj⟩)]
      exact hroom j hj hl fun k e' hd h5 => hno k e' (by rw [hD', hd]; rfl) h5
end
end Go.Mir
