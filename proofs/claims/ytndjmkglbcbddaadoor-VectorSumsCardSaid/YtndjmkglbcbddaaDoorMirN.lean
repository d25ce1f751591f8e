/- What an operation yields hangs on its operands and on the objects that it looks at: each operation. No condition. -/
import Derived.Test.YtndjmkglbcbddaaDoorMirM
set_option linter.unusedVariables false
namespace Go.Mir

section
variable {P : Program} {T : Nat → TI} {g : Option Bool}

theorem loadE_loc (t : TI) (p : AV) : Loc (fun hp K => loadE t p hp g fun v rd => K ⟨v, [], rd⟩) := by
  unfold loadE
  split
  · exact .of_reg ((cut_reg _ _).bind fun l => (wrap_reg _ _).bind fun v => .ret _)
  · rename_i j off
    refine .look (G := fun o K => match o with
      | some (.cells cs) => skip cs off fun cs' => cut cs' t.size fun l => wrapAV t l fun v => K ⟨v, [], [j]⟩
      | _ => False) (fun o => ?_) (fun o K h => ?_)
    · split
      · exact (skip_reg _ _).bind fun _ => (cut_reg _ _).bind fun l => (wrap_reg _ _).bind fun v => .ret _
      · exact .false
    · revert h
      split
      · intro h
        obtain ⟨v, h1, h2⟩ := ((skip_reg _ off).bind fun a => (cut_reg a t.size).bind fun l => (wrap_reg t l)) (fun v => K ⟨v, [], [j]⟩) h
        exact h2 _ ⟨h1, by simp⟩
      · exact fun h => h.elim
  · rename_i j ver i off
    refine .look (G := fun o K => match o with
      | some (.row _ enc _ d xs ver') => ob g (ver = ver' ∧ i < xs.length) ∧ skip (enc (xs.getD i d)) off fun cs' => cut cs' t.size fun l => wrapAV t l fun v => K ⟨v, [], [j]⟩
      | _ => False) (fun o => ?_) (fun o K h => ?_)
    · split
      · exact .and ((skip_reg _ _).bind fun _ => (cut_reg _ _).bind fun l => (wrap_reg _ _).bind fun v => .ret _)
      · exact .false
    · revert h
      split
      · intro h
        obtain ⟨h0, h⟩ := h
        obtain ⟨v, h1, h2⟩ := ((skip_reg _ off).bind fun a => (cut_reg a t.size).bind fun l => (wrap_reg t l)) (fun v => K ⟨v, [], [j]⟩) h
        exact ⟨h0, h2 _ ⟨h1, by simp⟩⟩
      · exact fun h => h.elim
  · exact .false

theorem storeE_loc (t : TI) (p v : AV) : Loc (fun hp K => storeE t p v hp fun wr rd => K ⟨.any, wr, rd⟩) := by
  unfold storeE
  refine .bind (flat_reg t v) fun vs => .and (.and ?_)
  split
  · rename_i j off
    refine .look (G := fun o K => match o with
      | some (.cells cs) => splice cs off vs fun cs' => K ⟨.any, [(j, .cells cs')], [j]⟩
      | _ => False) (fun o => ?_) (fun o K h => ?_)
    · split
      · exact (splice_reg _ _ _).bind fun _ => .ret _
      · exact .false
    · revert h
      split
      · intro h
        obtain ⟨v, h1, h2⟩ := (splice_reg _ off vs) (fun cs' => K ⟨.any, [(j, .cells cs')], [j]⟩) h
        exact h2 _ ⟨h1, by simp⟩
      · exact fun h => h.elim
  · rename_i j ver i off
    refine .look (G := fun o K => match o with
      | some (.row α enc s d xs ver') => (ver = ver' ∧ i < xs.length) ∧ closedAll vs ∧ splice (enc (xs.getD i d)) off vs fun cs' => ∃ (β : Type) (e' : β → List AV) (d' : β) (zs : List β), zs.map e' = (xs.map enc).set i cs' ∧ K ⟨.any, [(j, .row β e' s d' zs ver)], [j]⟩
      | _ => False) (fun o => ?_) (fun o K h => ?_)
    · split
      · exact .and (.and ((splice_reg _ _ _).bind fun _ => .ex fun β => .ex fun e' => .ex fun d' => .ex fun zs => .and (.ret _)))
      · exact .false
    · revert h
      split
      · intro h
        obtain ⟨h0, h3, h⟩ := h
        obtain ⟨v, h1, h2⟩ := (splice_reg _ off vs) _ h
        refine ⟨h0, h3, h2 _ ?_⟩
        obtain ⟨β, e', d', zs, e, hk⟩ := h1
        exact ⟨β, e', d', zs, e, hk, by simp⟩
      · exact fun h => h.elim
  · exact .false

theorem lenE_loc (k : TK) (x : AV) (f : Int → AV) : Loc (fun hp K => lenE k x hp g fun m rd => K ⟨f m, [], rd⟩) := by
  unfold lenE
  split
  · split
    · exact .ret _
    · exact .false
  · split
    · exact .ret _
    · exact .ret _
    · rename_i j ver
      refine .look (G := fun o K => match o with
        | some (.row _ _ _ _ xs ver') => ob g (ver = ver') ∧ K ⟨f xs.length, [], [j]⟩
        | _ => False) (fun o => ?_) (fun o K h => ?_)
      · split
        · exact .and (.ret _)
        · exact .false
      · revert h
        split
        · intro h
          exact ⟨h.1, h.2, by simp⟩
        · exact fun h => h.elim
    · exact .false
  · exact .ret _
  · split
    · rename_i j
      refine .look (G := fun o K => match o with
        | some (.map _ _ _ _ es) => K ⟨f es.length, [], [j]⟩
        | _ => False) (fun o => ?_) (fun o K h => ?_)
      · split
        · exact .ret _
        · exact .false
      · revert h
        split
        · intro h
          exact ⟨h, by simp⟩
        · exact fun h => h.elim
    · exact .ret _
    · exact .ret _
    · exact .false
  · exact .false

theorem indexAddrE_loc (t : Nat) (p : AV) (i : Int) : Loc (fun hp K => indexAddrE T t p i hp g fun v rd => K ⟨v, [], rd⟩) := by
  unfold indexAddrE
  split
  · rename_i e _
    refine .known ?_
    split
    · exact .and (.and (.ret _))
    · rename_i j ver
      refine .look (G := fun o K => match o with
        | some (.row _ _ sz _ xs ver') => sz = (T e).size ∧ ob g (ver = ver' ∧ 0 ≤ i ∧ i < xs.length) ∧ K ⟨.rloc j ver i.toNat 0, [], [j]⟩
        | _ => False) (fun o => ?_) (fun o K h => ?_)
      · split
        · exact .and (.and (.ret _))
        · exact .false
      · revert h
        split
        · intro h
          exact ⟨h.1, h.2.1, h.2.2, by simp⟩
        · exact fun h => h.elim
    · exact .false
  · exact .known (.ex fun m => .and (.and (.of_reg ((offE_reg _ _).bind fun q => .ret _))))
  · exact .false

theorem Loc.look' {j : Nat} {G : Option Obj → List Obj → (Eff → Prop) → Prop} (hG : ∀ o, Loc (G o)) (hj : ∀ o hp K, G o hp K → G o hp fun x => K x ∧ j ∈ x.rd) : Loc (fun hp K => G hp[j]? hp K) := by
  intro hp K h
  obtain ⟨x, ⟨h1, hm⟩, h2⟩ := hG _ _ _ (hj _ _ _ h)
  exact ⟨x, h1, fun hp' he K' hk => by show G hp'[j]? hp' K'; rw [he j hm]; exact h2 hp' he K' hk⟩

/-- What append does with what is laid behind. -/
def appF (ti : TI) (s : AV) (n : Nat) (g : Option Bool) (c : Cont) (hp : List Obj) (K : Eff → Prop) : Prop :=
  match s with
  | .nils => joinOk ti ti.size 0 c ∧ ∃ (β : Type) (e' : β → List AV) (d' : β) (zs : List β), zs.map e' = c.ys.map c.enc ∧ K ⟨.rowf n 1, [(n, .row β e' ti.size d' zs 1)], c.rd⟩
  | .rowf j ver => match hp[j]? with
    | some (.row α enc sz d xs ver') => ver = ver' ∧ joinOk ti sz xs.length c ∧ ∃ (β : Type) (e' : β → List AV) (d' : β) (zs : List β), zs.map e' = xs.map enc ++ c.ys.map c.enc ∧ K ⟨.rowf j (ver + 1), [(j, .row β e' sz d' zs (ver + 1)), (n, .dead)], j :: c.rd⟩
    | _ => False
  | _ => False
theorem appF_loc (ti : TI) (s : AV) (n : Nat) (g : Option Bool) (c : Cont) : Loc (appF ti s n g c) := by
  unfold appF
  split
  · exact .of_reg (.and (.ex fun β => .ex fun e' => .ex fun d' => .ex fun zs => .and (.ret _)))
  · rename_i j ver
    refine .look (G := fun o K => match o with
      | some (.row α enc sz d xs ver') => ver = ver' ∧ joinOk ti sz xs.length c ∧ ∃ (β : Type) (e' : β → List AV) (d' : β) (zs : List β), zs.map e' = xs.map enc ++ c.ys.map c.enc ∧ K ⟨.rowf j (ver + 1), [(j, .row β e' sz d' zs (ver + 1)), (n, .dead)], j :: c.rd⟩
      | _ => False) (fun o => ?_) (fun o K h => ?_)
    · split
      · exact .and (.and (.ex fun β => .ex fun e' => .ex fun d' => .ex fun zs => .and (.ret _)))
      · exact .false
    · revert h
      split
      · rintro ⟨h1, h2, β, e', d', zs, hz, hk⟩
        exact ⟨h1, h2, β, e', d', zs, hz, hk, by simp⟩
      · exact fun h => h.elim
  · exact .false
theorem appF_rd (ti : TI) (s : AV) (n : Nat) (g : Option Bool) (c : Cont) (hp : List Obj) (K : Eff → Prop) (h : appF ti s n g c hp K) : appF ti s n g c hp fun x => K x ∧ ∀ j ∈ c.rd, j ∈ x.rd := by
  unfold appF at h ⊢
  split at h
  · obtain ⟨h1, β, e', d', zs, hz, hk⟩ := h
    exact ⟨h1, β, e', d', zs, hz, hk, fun j hj => hj⟩
  · rename_i j ver
    revert h
    split
    · rintro ⟨h1, h2, β, e', d', zs, hz, hk⟩
      exact ⟨h1, h2, β, e', d', zs, hz, hk, fun j hj => List.mem_cons_of_mem _ hj⟩
    · exact fun h => h.elim
  · exact h.elim
theorem cont_loc (ti : TI) (x : AV) {F : Cont → List Obj → (Eff → Prop) → Prop} (h1 : ∀ c, Loc (F c)) (h2 : ∀ c hp K, F c hp K → F c hp fun x => K x ∧ ∀ j ∈ c.rd, j ∈ x.rd) : Loc (fun hp K => contE ti x hp g fun c => F c hp K) := by
  unfold contE
  split
  · exact h1 _
  · exact h1 _
  · rename_i j ver
    refine .look' (G := fun o hp K => match o with
      | some (.row α enc sz _ xs ver') => ob g (ver = ver') ∧ F ⟨α, enc, sz, xs, [j]⟩ hp K
      | _ => False) (fun o => ?_) (fun o hp K h => ?_)
    · split
      · exact .and (h1 _)
      · exact .false
    · revert h
      split
      · intro h
        refine ⟨h.1, ?_⟩
        obtain ⟨x, ⟨k1, k2⟩, k3⟩ := h1 _ _ _ (h2 _ _ _ h.2)
        exact k3 hp (fun _ _ => rfl) _ ⟨k1, k2 j (by simp)⟩
      · exact fun h => h.elim
  · exact .false
theorem appendE_loc (ti : TI) (s x : AV) (n : Nat) : Loc (fun hp K => appendE ti s x hp n g fun v w r => K ⟨v, w, r⟩) := by
  have := cont_loc (g := g) ti x (F := appF ti s n g) (appF_loc ti s n g) (appF_rd ti s n g)
  exact this
theorem opt_reg (ev : Operand → AV) (d : Int) (x : Option Operand) : Reg (optE ev g d x) := by
  unfold optE
  split
  · exact .ret _
  · refine (strip_reg _).bind fun v => ?_
    split
    · exact .ret _
    · exact .false
theorem Loc.byteSl {src : Nat} {F : List Obj → (Eff → Prop) → Prop} (h : Loc F) : Loc (fun hp K => Go.Mir.byteSl T src (F hp K)) := by
  unfold Go.Mir.byteSl
  split
  · split
    · exact h
    · exact .false
  · exact .false
theorem convE_loc (src dst : Nat) (x : AV) : Loc (fun hp K => convE T src dst x hp g fun v rd => K ⟨v, [], rd⟩) := by
  unfold convE
  split
  · split
    · exact .of_reg (.ex fun r => .and (.ret _))
    · exact .false
  · split
    · exact .ret _
    · exact .byteSl (.ret _)
    · rename_i j off n cap
      refine .byteSl (.look (G := fun o K => match o with
        | some (.cells cs) => skip cs off fun cs' => cut cs' n fun l => numsE l fun ns => K ⟨.str (strOfNums ns), [], [j]⟩
        | _ => False) (fun o => ?_) (fun o K h => ?_))
      · split
        · exact (skip_reg _ _).bind fun _ => (cut_reg _ _).bind fun l => (nums_reg l).bind fun v => .ret _
        · exact .false
      · revert h
        split
        · intro h
          obtain ⟨v, h1, h2⟩ := ((skip_reg _ off).bind fun a => (cut_reg a n).bind fun l => nums_reg l) _ h
          exact h2 _ ⟨h1, by simp⟩
        · exact fun h => h.elim
    · exact .byteSl (.of_reg (.and (.ex fun ns => .and (.ret _))))
    · rename_i j ver
      refine .byteSl (.look (G := fun o K => match o with
        | some (.row _ enc sz _ xs ver') => ob g (ver = ver') ∧ Nat.beq sz 1 = true ∧ ∃ ns : List Int, xs.map enc = ns.map (fun n => [.int .u8 n]) ∧ K ⟨.str (strOfNums ns), [], [j]⟩
        | _ => False) (fun o => ?_) (fun o K h => ?_))
      · split
        · exact .and (.and (.ex fun ns => .and (.ret _)))
        · exact .false
      · revert h
        split
        · rintro ⟨h1, h2, ns, h3, h4⟩
          exact ⟨h1, h2, ns, h3, h4, by simp⟩
        · exact fun h => h.elim
    · exact .false
  · exact .false
theorem sliceE_loc (t : Nat) (x : AV) (lo hi mx : Option Operand) (ev : Operand → AV) : Loc (fun hp K => sliceE T t x lo hi mx ev hp g fun v rd => K ⟨v, [], rd⟩) := by
  unfold sliceE
  split
  · split
    · split
      · exact .of_reg ((opt_reg _ _ _).bind fun l => (opt_reg _ _ _).bind fun h => .and (.ret _))
      · exact .false
    · exact .false
  · refine .known ?_
    split
    · refine .of_reg ((opt_reg _ _ _).bind fun l => (opt_reg _ _ _).bind fun h => ?_)
      split
      · refine .and ?_
        split <;> exact .ret _
      · refine .and ((opt_reg _ _ _).bind fun m => .and ?_)
        split <;> exact .ret _
    · exact .false
  · refine .known ?_
    split
    · refine .of_reg (.and ((opt_reg _ _ _).bind fun l => (opt_reg _ _ _).bind fun h => ?_))
      split
      · exact .and (.ret _)
      · refine .and ((opt_reg _ _ _).bind fun m => .and ?_)
        split <;> exact .ret _
    · refine .of_reg ((opt_reg _ _ _).bind fun l => (opt_reg _ _ _).bind fun h => ?_)
      split
      · exact .and (.ret _)
      · exact .and ((opt_reg _ _ _).bind fun m => .and (.ret _))
    · rename_i j ver
      refine .look (G := fun o K => match o with
        | some (.row _ _ _ _ xs ver') => optE ev g 0 lo fun l => optE ev g xs.length hi fun h => match mx with
          | none => ob g (ver = ver' ∧ l = 0 ∧ h = xs.length) ∧ K ⟨.rowf j ver, [], [j]⟩
          | mx => hi.isSome = true ∧ optE ev g 0 mx fun m => ob g (ver = ver' ∧ l = 0 ∧ h = 0 ∧ m = 0) ∧ K ⟨.nils, [], [j]⟩
        | _ => False) (fun o => ?_) (fun o K h => ?_)
      · split
        · refine (opt_reg _ _ _).bind fun l => (opt_reg _ _ _).bind fun h => ?_
          split
          · exact .and (.ret _)
          · exact .and ((opt_reg _ _ _).bind fun m => .and (.ret _))
        · exact .false
      · revert h
        split
        · intro h
          obtain ⟨l, h1, h2⟩ := opt_reg ev 0 lo _ h
          refine h2 _ ?_
          obtain ⟨r, h3, h4⟩ := opt_reg ev _ hi _ h1
          refine h4 _ ?_
          revert h3
          split
          · intro h3
            exact ⟨h3.1, h3.2, by simp⟩
          · intro h3
            obtain ⟨m, h5, h6⟩ := opt_reg ev 0 _ _ h3.2
            exact ⟨h3.1, h6 _ ⟨h5.1, h5.2, by simp⟩⟩
        · exact fun h => h.elim
    · exact .false
  · exact .false
theorem make_reg (ti : TI) (l c : AV) (n : Nat) : Reg (fun K : Eff → Prop => makeE ti l c n g fun v w r => K ⟨v, w, r⟩) := by
  unfold makeE
  split
  · split
    · exact .and (.and (.ex fun β => .ex fun e' => .ex fun d' => .ex fun zs => .and (.ret _)))
    · exact .false
  · exact .false
theorem min_reg (mx : Bool) (x y : AV) : Reg (minE mx x y) := by
  unfold minE
  repeat' split
  all_goals first | exact .ret _ | exact .false
theorem opt_congr {ev ev' : Operand → AV} (d : Int) {x : Option Operand} (h : ∀ y, x = some y → ev' y = ev y) : optE ev' g d x = optE ev g d x := by
  cases x with
  | none => rfl
  | some y =>
    funext K
    simp only [optE, h y rfl]
theorem slice_congr {ev ev' : Operand → AV} (t : Nat) (x : AV) {lo hi mx : Option Operand} (h1 : ∀ y, lo = some y → ev' y = ev y) (h2 : ∀ y, hi = some y → ev' y = ev y) (h3 : ∀ y, mx = some y → ev' y = ev y) (hp : List Obj) (K : AV → List Nat → Prop) :
    sliceE T t x lo hi mx ev' hp g K = sliceE T t x lo hi mx ev hp g K := by
  have e1 := fun d => opt_congr (g := g) d h1
  have e2 := fun d => opt_congr (g := g) d h2
  cases mx with
  | none =>
    unfold sliceE
    simp only [e1, e2]
  | some m =>
    have e3 := fun d => opt_congr (g := g) d h3
    unfold sliceE
    simp only [e1, e2, e3]

theorem opEff_loc (op : Op) (ev : Operand → AV) (n : Nat) : Loc (fun hp K => opEff P T g op ev hp n fun v w r => K ⟨v, w, r⟩) := by
  unfold opEff
  split
  · exact .ret _
  · exact .ret _
  · exact .of_reg ((pick_reg _ _ _).bind fun v => .ret _)
  · exact .known (.of_reg ((copyL_reg _).bind fun z => .ret _))
  · exact .known (.of_reg ((strip_reg _).bind fun v => (flat_reg _ _).bind fun cs => .ret _))
  · exact .known (.of_reg (partsKnown_reg ((stripParts_reg _).bind fun ps' => (copyL_reg _).bind fun z => (buildE_reg _ _ _).bind fun cs => .ret _)))
  · split
    · exact .known (.and (.of_reg ((stripParts_reg _).bind fun ps' => (buildE_reg _ _ _).bind fun cs => .and ((groups_reg _ _ _).bind fun ls => .ex fun β => .ex fun e' => .ex fun d' => .ex fun xs => .and (.ret _)))))
    · exact .false
  · exact .known (.bind (strip_reg _) fun p => loadE_loc _ _)
  · exact .known (.bind (strip_reg _) fun p => .bind (strip_reg _) fun v => storeE_loc _ _ _)
  · refine .bind (strip_reg _) fun v => ?_
    split <;> first | exact .ret _ | exact .false
  · exact .bind (strip_reg _) fun a => .bind (strip_reg _) fun b => .of_reg ((binE_reg _ _ _ _ _).bind fun v => .ret _)
  · exact .bind (strip_reg _) fun a => .of_reg ((unE_reg _ _).bind fun v => .ret _)
  · exact .known (.bind (strip_reg _) fun a => convE_loc _ _ _)
  · exact .of_reg ((strips_reg _).bind fun as => (strips_reg _).bind fun cs => .ret _)
  · refine .bind (strip_reg _) fun p => ?_
    split
    · refine .known ?_
      split
      · exact .false
      · exact .of_reg ((offE_reg _ _).bind fun q => .ret _)
    · exact .false
  · refine .bind (strip_reg _) fun v => ?_
    split
    · split
      · exact .bind (skip_reg _ _) fun cs' => .known (.of_reg ((cut_reg _ _).bind fun l => (wrap_reg _ _).bind fun v => .ret _))
      · exact .false
    · exact .false
  · refine .bind (strip_reg _) fun p => .bind (strip_reg _) fun iv => ?_
    split
    · exact indexAddrE_loc _ _ _
    · exact .false
  · refine .bind (strip_reg _) fun p => .bind (strip_reg _) fun iv => ?_
    split
    · exact .of_reg ((indexE_reg _ _ _).bind fun v => .ret _)
    · exact .false
  · exact .bind (strip_reg _) fun p => sliceE_loc _ _ _ _ _ _
  · split
    · exact .known (.bind (strip_reg _) fun l => .bind (strip_reg _) fun c => .of_reg (make_reg _ _ _ _))
    · exact .false
  · refine .bind (strip_reg _) fun v => ?_
    split
    · split
      · exact .ret _
      · exact .false
    · exact .false
  · split
    · split
      · split
        · exact .bind (strip_reg _) fun v => lenE_loc _ _ _
        · exact .false
      · exact .false
    · split
      · split
        · split
          · exact .known (.and (.bind (strip_reg _) fun s => .bind (strip_reg _) fun x => appendE_loc _ _ _ _))
          · exact .false
        · exact .false
      · exact .false
    · split
      · exact .bind (strip_reg _) fun x => .bind (strip_reg _) fun y => .of_reg ((min_reg _ _ _).bind fun v => .ret _)
      · exact .false
    · split
      · exact .bind (strip_reg _) fun x => .bind (strip_reg _) fun y => .of_reg ((min_reg _ _ _).bind fun v => .ret _)
      · exact .false
    · refine .bind (strip_reg _) fun v => ?_
      split
      · exact .of_reg ((strips_reg _).bind fun as => .and (.ex fun r => .and (.ret _)))
      · exact .false
    · exact .false
  · exact .false

theorem parts_congr {ev ev' : Operand → AV} (ps : List (Nat × Operand)) (h : ∀ p ∈ ps, ev' p.2 = ev p.2) : parts ev' ps = parts ev ps :=
  List.map_congr_left fun p hp => by rw [h p hp]

/-- Only the operands count. -/
theorem opEff_congr (op : Op) {ev ev' : Operand → AV} (h : ∀ x ∈ op.operands, ev' x = ev x) (hp : List Obj) (n : Nat) (K : AV → List (Nat × Obj) → List Nat → Prop) : opEff P T g op ev' hp n K = opEff P T g op ev hp n K := by
  cases op with
  | call c =>
    obtain ⟨callee, args, argTypes⟩ := c
    have ha : args.toList.map ev' = args.toList.map ev := List.map_congr_left fun x hx => h x (by simp [Op.operands, Call.operands]; exact .inr (by simpa using hx))
    cases callee with
    | value f =>
      have hf : ev' f = ev f := h f (by simp [Op.operands, Call.operands])
      simp only [opEff, hf, ha]
    | invoke r nm => simp only [opEff]
    | builtin b =>
      cases hl : args.toList with
      | nil => cases b <;> simp only [opEff, hl]
      | cons x xs =>
        have hx : ev' x = ev x := h x (by simp [Op.operands, Call.operands]; rw [← Array.mem_toList_iff, hl]; simp)
        cases xs with
        | nil => cases b <;> simp only [opEff, hl, hx]
        | cons y ys =>
          have hy : ev' y = ev y := h y (by simp [Op.operands, Call.operands]; rw [← Array.mem_toList_iff, hl]; simp)
          cases ys with
          | nil => cases b <;> simp only [opEff, hl, hx, hy]
          | cons _ _ => cases b <;> simp only [opEff, hl]
  | makeFunc fn first captured =>
    have h1 : first.toList.map ev' = first.toList.map ev := List.map_congr_left fun x hx => h x (by simp [Op.operands]; exact .inl (by simpa using hx))
    have h2 : captured.toList.map ev' = captured.toList.map ev := List.map_congr_left fun x hx => h x (by simp [Op.operands]; exact .inr (by simpa using hx))
    simp only [opEff, h1, h2]
  | build t ps =>
    have := parts_congr (ev := ev) (ev' := ev') ps.toList fun p hp => h p.2 (by simp [Op.operands]; exact ⟨p.1, by simpa using hp⟩)
    simp only [opEff, this]
  | buildSlice t len ps =>
    have := parts_congr (ev := ev) (ev' := ev') ps.toList fun p hp => h p.2 (by simp [Op.operands]; exact ⟨p.1, by simpa using hp⟩)
    simp only [opEff, this]
  | move x => simp only [opEff, h x (by simp [Op.operands])]
  | assign x => simp only [opEff, h x (by simp [Op.operands])]
  | pick c a b => simp only [opEff, h c (by simp [Op.operands]), h a (by simp [Op.operands]), h b (by simp [Op.operands])]
  | box t x => simp only [opEff, h x (by simp [Op.operands])]
  | load t x => simp only [opEff, h x (by simp [Op.operands])]
  | store t x y => simp only [opEff, h x (by simp [Op.operands]), h y (by simp [Op.operands])]
  | nilCheck x => simp only [opEff, h x (by simp [Op.operands])]
  | binOp op t x y ty => simp only [opEff, h x (by simp [Op.operands]), h y (by simp [Op.operands])]
  | unOp op t x => simp only [opEff, h x (by simp [Op.operands])]
  | convert s d x => simp only [opEff, h x (by simp [Op.operands])]
  | fieldAddr t x i => simp only [opEff, h x (by simp [Op.operands])]
  | field t x i => simp only [opEff, h x (by simp [Op.operands])]
  | indexAddr t x i => simp only [opEff, h x (by simp [Op.operands]), h i (by simp [Op.operands])]
  | index t x i => simp only [opEff, h x (by simp [Op.operands]), h i (by simp [Op.operands])]
  | slice t x lo hi mx =>
    have hx : ev' x = ev x := h x (by simp [Op.operands])
    simp only [opEff, hx]
    congr 1
    funext p
    exact slice_congr t p (fun y e => h y (by simp [Op.operands, e])) (fun y e => h y (by simp [Op.operands, e])) (fun y e => h y (by simp [Op.operands, e])) hp _
  | makeSlice t l c => simp only [opEff, h l (by simp [Op.operands]), h c (by simp [Op.operands])]
  | extract x i => simp only [opEff, h x (by simp [Op.operands])]
  | _ => simp only [opEff]
end
end Go.Mir
