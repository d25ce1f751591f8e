/- Regions that draw their order. No condition. -/
import Derived.Test.YtndjmkglbcbddaaDoorMirP
set_option linter.unusedVariables false
namespace Go.Mir

def looksL (dsts : List (Option Nat)) (o : Oper) : List Nat :=
  (o.op.operands.toList.filterMap fun | .tmp t => some t | _ => none) ++
  (match o.guard with
   | some (j, _) => match dsts[j]? with
     | some (some t) => [t]
     | _ => []
   | none => [])

def indep (dsts : List (Option Nat)) (o : Oper) (e : Eff) (o' : Oper) (e' : Eff) : Bool :=
  (match o.dst with | none => true | some d => !(looksL dsts o').contains d && o'.dst != some d) &&
  (match o'.dst with | none => true | some d => !(looksL dsts o).contains d) &&
  (e.wr.map (·.1)).all (fun j => !e'.rd.contains j && !(e'.wr.map (·.1)).contains j) && (e'.wr.map (·.1)).all (fun j => !e.rd.contains j)

def newsAt (ops : List Oper) (i : Nat) : Nat := ((ops.take i).map fun o => news o.op).sum

/-- What may be exchanged touches different things. -/
def bern (ops : List Oper) (dsts : List (Option Nat)) (n : Nat) (es : List Eff) : Bool :=
  (List.range ops.length).all fun i => match ops[i]?, es[i]? with
    | some o, some e => (preds o).all (fun k => Nat.blt k i) && (news o.op == 0 || (e.wr.map (·.1)).contains (n + newsAt ops i)) &&
      (List.range i).all fun k => ((masks ops).getD i 0).testBit k || match ops[k]?, es[k]? with
        | some o', some e' => indep dsts o' e' o e
        | _, _ => false
    | _, _ => false

section
variable {P : Program} {T : Nat → TI} {X : Nat → Prop} {m : Nat}

/-- The outcome of an operation, wherever what it looks at is as it was. -/
def Out (P : Program) (T : Nat → TI) (dsts : List (Option Nat)) (o : Oper) (fr : List AV) (hp : List Obj) (n : Nat) (c : AV) (e : Eff) : Prop :=
  ∀ fr2 hp2, fr2.length = fr.length → hp2.length = hp.length → (∀ t ∈ looksL dsts o, fr2[t]? = fr[t]?) → (∀ j ∈ e.rd, hp2[j]? = hp[j]?) →
    guardE dsts fr2 o.guard fun g => opEff P T g o.op (evalAV fr2) hp2 n fun val wr rd => still g wr <| finC g val fun v => (∀ p ∈ wr, p.1 < hp2.length) ∧ (∀ d, o.dst = some d → d < fr2.length) ∧ (v = c ∧ val = e.val ∧ wr = e.wr ∧ rd = e.rd)

theorem finC_reg (g : Option Bool) (v : AV) : Reg (finC g v) := by
  unfold finC
  repeat' split
  all_goals exact .ret _

theorem extract_one {dsts : List (Option Nat)} {o : Oper} {fr : List AV} {hp : List Obj} {n b : Nat} {K : AV → List Obj → List AV → Eff → Prop}
    (h : guardE dsts fr o.guard fun g => opEff P T g o.op (evalAV fr) hp n fun val wr rd => still g wr <| finC g val fun v => putO fr o.dst v fun fr' => setsC b hp wr fun hp' => K v hp' fr' ⟨val, wr, rd⟩) :
    ∃ c e, Out P T dsts o fr hp n c e ∧ (∀ p ∈ e.wr, p.1 < hp.length ∧ p.1 < b) ∧ (∀ d, o.dst = some d → d < fr.length) ∧ K c (updl hp e.wr) (setO fr o.dst c) e := by
  have body : ∀ g, (opEff P T g o.op (evalAV fr) hp n fun val wr rd => still g wr <| finC g val fun v => putO fr o.dst v fun fr' => setsC b hp wr fun hp' => K v hp' fr' ⟨val, wr, rd⟩) →
      ∃ c e, (∀ fr2 hp2, fr2.length = fr.length → hp2.length = hp.length → (∀ t ∈ looksL dsts o, fr2[t]? = fr[t]?) → (∀ j ∈ e.rd, hp2[j]? = hp[j]?) →
        opEff P T g o.op (evalAV fr2) hp2 n fun val wr rd => still g wr <| finC g val fun v => (∀ p ∈ wr, p.1 < hp2.length) ∧ (∀ d, o.dst = some d → d < fr2.length) ∧ (v = c ∧ val = e.val ∧ wr = e.wr ∧ rd = e.rd)) ∧
        (∀ p ∈ e.wr, p.1 < hp.length ∧ p.1 < b) ∧ (∀ d, o.dst = some d → d < fr.length) ∧ K c (updl hp e.wr) (setO fr o.dst c) e := by
    intro g hg
    obtain ⟨e, h1, h2⟩ := opEff_loc (P := P) (T := T) (g := g) o.op (evalAV fr) n hp (fun e => still g e.wr <| finC g e.val fun v => putO fr o.dst v fun fr' => setsC b hp e.wr fun hp' => K v hp' fr' e) hg
    have hst : ∃ c, (∀ q : AV → Prop, q c → still g e.wr (finC g e.val q)) ∧ putO fr o.dst c fun fr' => setsC b hp e.wr fun hp' => K c hp' fr' e := by
      cases g with
      | none =>
        have h1' : finC none e.val fun v => putO fr o.dst v fun fr' => setsC b hp e.wr fun hp' => K v hp' fr' e := h1
        obtain ⟨c, a1, a2⟩ := finC_reg none e.val _ h1'
        exact ⟨c, a2, a1⟩
      | some bb =>
        obtain ⟨ev, ew, er⟩ := e
        cases ew with
        | nil =>
          have h1' : finC (some bb) ev fun v => putO fr o.dst v fun fr' => setsC b hp [] fun hp' => K v hp' fr' ⟨ev, [], er⟩ := h1
          obtain ⟨c, a1, a2⟩ := finC_reg (some bb) ev _ h1'
          exact ⟨c, a2, a1⟩
        | cons _ _ => exact h1.elim
    obtain ⟨c, hc, hput⟩ := hst
    obtain ⟨hd, hset⟩ := putO_spec hput
    obtain ⟨hw, hk⟩ := setsC_spec hset
    refine ⟨c, e, fun fr2 hp2 hl1 hl2 hs hr => ?_, hw, hd, hk⟩
    rw [opEff_congr (ev := evalAV fr) (ev' := evalAV fr2) o.op (fun x hx => ?_)]
    · refine h2 hp2 hr (fun x => still g x.wr <| finC g x.val fun v => (∀ p ∈ x.wr, p.1 < hp2.length) ∧ (∀ d, o.dst = some d → d < fr2.length) ∧ (v = c ∧ x.val = e.val ∧ x.wr = e.wr ∧ x.rd = e.rd)) (hc _ ⟨fun p hp => by rw [hl2]; exact (hw p hp).1, fun d hd' => by rw [hl1]; exact hd d hd', rfl, rfl, rfl, rfl⟩)
    · cases x with
      | tmp t =>
        simp only [evalAV, List.getD_eq_getElem?_getD]
        rw [hs t (by
          simp only [looksL, List.mem_append, List.mem_filterMap]
          exact .inl ⟨.tmp t, by simpa using hx, rfl⟩)]
      | const v => rfl
      | global g => rfl
      | func f => rfl
  unfold guardE at h
  split at h
  · rename_i hgd
    obtain ⟨c, e, h1, h2, h3, h4⟩ := body none h
    refine ⟨c, e, fun fr2 hp2 a1 a2 a3 a4 => ?_, h2, h3, h4⟩
    rw [hgd]
    exact h1 fr2 hp2 a1 a2 a3 a4
  · rename_i j want hgd
    split at h
    · rename_i t ht
      have hlook : t ∈ looksL dsts o := by
        simp only [looksL, hgd, ht, List.mem_append]
        exact .inr (by simp)
      split at h
      · rename_i cc hc
        cases want
        all_goals
          obtain ⟨c, e, h1, h2, h3, h4⟩ := body _ h
          refine ⟨c, e, fun fr2 hp2 a1 a2 a3 a4 => ?_, h2, h3, h4⟩
          simp only [guardE, hgd, ht]
          rw [a3 t hlook, hc]
          exact h1 fr2 hp2 a1 a2 a3 a4
      · rename_i bb cc hc
        cases want
        all_goals
          obtain ⟨c, e, h1, h2, h3, h4⟩ := body _ h
          refine ⟨c, e, fun fr2 hp2 a1 a2 a3 a4 => ?_, h2, h3, h4⟩
          simp only [guardE, hgd, ht]
          rw [a3 t hlook, hc]
          exact h1 fr2 hp2 a1 a2 a3 a4
      · exact h.elim
    · exact h.elim

/-- The lexical run, taken apart. -/
theorem extract_all {dsts : List (Option Nat)} : ∀ (os : List Oper) {fr : List AV} {hp : List Obj} {n : Nat} {K : List AV → List Obj → List Eff → Prop}, opsEff P T dsts os fr hp n K →
    ∃ (cs : List AV) (es : List Eff), cs.length = os.length ∧ es.length = os.length ∧
      K (runD (fun _ => true) 0 (List.zipWith (fun (o : Oper) c => dstL o.dst c) os cs) fr) (runD (fun _ => true) 0 (es.map (·.wr)) hp) es ∧
      ∀ (i : Nat) o c e, os[i]? = some o → cs[i]? = some c → es[i]? = some e →
        Out P T dsts o (runD (fun _ => true) 0 ((List.zipWith (fun (o : Oper) c => dstL o.dst c) os cs).take i) fr) (runD (fun _ => true) 0 ((es.map (·.wr)).take i) hp) (n + newsAt os i) c e ∧
        (∀ p ∈ e.wr, p.1 < hp.length ∧ p.1 < n + newsAt os i + news o.op) ∧ (∀ d, o.dst = some d → d < fr.length)
  | [], fr, hp, n, K, h => ⟨[], [], rfl, rfl, h, fun i o c e h => by simp at h⟩
  | o :: os, fr, hp, n, K, h => by
    obtain ⟨c, e, h1, h2, h3, h4⟩ := extract_one (K := fun v hp' fr' e => opsEff P T dsts os fr' hp' (n + news o.op) fun fr'' hp'' es => K fr'' hp'' (e :: es)) h
    obtain ⟨cs, es, l1, l2, hk, hi⟩ := extract_all os h4
    have run0 : ∀ {β : Type _} (k : Nat) (L : List (List (Nat × β))) (l : List β), runD (fun _ => true) (k + 1) L l = runD (fun _ => true) k L l := by
      intro β k L
      induction L generalizing k with
      | nil => intro l; rfl
      | cons q L ih => intro l; simp only [runD]; exact ih _ _
    refine ⟨c :: cs, e :: es, by simp [l1], by simp [l2], ?_, fun i o' c' e' a1 a2 a3 => ?_⟩
    · simp only [List.zipWith_cons_cons, List.map_cons, runD, if_true]
      rw [run0, run0, ← setO_eq, ← updl_eq]
      exact hk
    · cases i with
      | zero =>
        simp at a1 a2 a3
        subst a1 a2 a3
        refine ⟨by simpa [runD, newsAt] using h1, fun p hp => ?_, h3⟩
        simpa [newsAt] using h2 p hp
      | succ i =>
        obtain ⟨b1, b2, b3⟩ := hi i o' c' e' (by simpa using a1) (by simpa using a2) (by simpa using a3)
        have hn : n + news o.op + newsAt os i = n + newsAt (o :: os) (i + 1) := by simp [newsAt]; omega
        refine ⟨?_, fun p hp => ?_, fun d hd => ?_⟩
        · simp only [List.zipWith_cons_cons, List.map_cons, List.take_succ_cons, runD, if_true]
          rw [run0, run0, ← setO_eq, ← updl_eq, ← hn]
          exact b1
        · have := b2 p hp
          rw [updl_length, hn] at this
          exact this
        · have := b3 d hd
          rwa [setO_length] at this
end
end Go.Mir
