/- What the evaluator does to the entities of the calls around: they come to lead nowhere new. -/
import Derived.Test.YtlphdiccffnckaaStq
namespace Go.Abs

theorem RefL.refl (b : Nat) (H : List Ent) : RefL b H H := fun _ h _ hh => ⟨h, hh, fun _ hu => hu⟩
theorem RefL.trans {b : Nat} {H H' H'' : List Ent} (a : RefL b H H') (c : RefL b H' H'') : RefL b H H'' := fun k h hk hh => by
  obtain ⟨h', h1, h2⟩ := a k h hk hh
  obtain ⟨h'', h3, h4⟩ := c k h' hk h1
  exact ⟨h'', h3, fun n hu => h4 n (h2 n hu)⟩
theorem RefL.less {b b' : Nat} {H H' : List Ent} (a : RefL b H H') (hb : b' ≤ b) : RefL b' H H' := fun k h hk => a k h (Nat.lt_of_lt_of_le hk hb)
theorem RefL.push (b : Nat) (H l : List Ent) : RefL b H (H ++ l) := fun k h _ hh => ⟨h, by
  rw [List.getElem?_append_left (List.getElem?_eq_some_iff.1 hh).1]; exact hh, fun _ hu => hu⟩
theorem RefL.set {b k : Nat} {H : List Ent} {h' : Ent} (hh : ∀ h, k < b → H[k]? = some h → ∀ n, Ent.under n h = true → Ent.under n h' = true) : RefL b H (H.set k h') := fun j h hj hH => by
  have hl := (List.getElem?_eq_some_iff.1 hH).1
  by_cases hjk : k = j
  · subst hjk
    exact ⟨h', by simp [hl], hh h hj hH⟩
  · exact ⟨h, by rw [List.getElem?_set_ne hjk]; exact hH, fun _ hu => hu⟩
theorem RefL.len {H H' : List Ent} (a : RefL H.length H H') : H.length ≤ H'.length := by
  by_cases h : H.length = 0
  · omega
  · obtain ⟨h', h1, _⟩ := a (H.length - 1) _ (by omega) (List.getElem?_eq_getElem (by omega))
    have := (List.getElem?_eq_some_iff.1 h1).1
    omega

mutual
theorem pure_under (n : Nat) : ∀ (v : AV), AV.pure v = true → AV.under n v = true
  | .und, _ | .sc _, _ | .sl .., _ | .fp _, _ | .nsl .., _ => rfl
  | .agg cs, h => pureL_under n cs h
  | .tup cs, h => pureL_under n cs h
  | .fn _ cs, h => pureL_under n cs h
  | .ifc _ v, h => pure_under n v h
  | .yl _, h => by simp [AV.pure] at h
  | .bp .., h => by simp [AV.pure] at h
  | .bxs .., h => by simp [AV.pure] at h
  | .os .., h => by simp [AV.pure] at h
  | .op .., h => by simp [AV.pure] at h
theorem pureL_under (n : Nat) : ∀ (vs : List AV), AV.pureL vs = true → AV.underL n vs = true
  | [], _ => rfl
  | v :: vs, h => by
    simp only [AV.pureL, Bool.and_eq_true] at h
    simp only [AV.underL, Bool.and_eq_true]
    exact ⟨pure_under n v h.1, pureL_under n vs h.2⟩
end

theorem pureLL_under (n : Nat) : ∀ (xs : List (List AV)), AV.pureLL xs = true → AV.underLL n xs = true
  | [], _ => rfl
  | x :: xs, h => by
    simp only [AV.pureLL, Bool.and_eq_true] at h
    simp only [AV.underLL, Bool.and_eq_true]
    exact ⟨pureL_under n x h.1, pureLL_under n xs h.2⟩

theorem underL_iff {n : Nat} : ∀ {cs : List AV}, AV.underL n cs = true ↔ ∀ c ∈ cs, AV.under n c = true
  | [] => by simp [AV.underL]
  | c :: cs => by simp [AV.underL, underL_iff]
theorem underLL_iff {n : Nat} : ∀ {xs : List (List AV)}, AV.underLL n xs = true ↔ ∀ x ∈ xs, AV.underL n x = true
  | [] => by simp [AV.underLL]
  | x :: xs => by simp [AV.underLL, underLL_iff]

theorem refCell_under {n : Nat} {v c : AV} (h : refCell v c = true) (hc : AV.under n c = true) : AV.under n v = true := by
  unfold refCell at h
  split at h
  · rw [Nat.eq_of_beq_eq_true h]
    simpa [AV.under] using hc
  · exact pure_under n _ h

theorem refCells_under {n : Nat} : ∀ {vs cs : List AV}, refCells vs cs = true → AV.underL n cs = true → AV.underL n vs = true
  | [], _, _, _ => rfl
  | _ :: _, [], h, _ => by simp [refCells] at h
  | v :: vs, c :: cs, h, hc => by
    simp only [refCells, Bool.and_eq_true] at h
    simp only [AV.underL, Bool.and_eq_true] at hc ⊢
    exact ⟨refCell_under h.1 hc.1, refCells_under h.2 hc.2⟩

theorem putAt_under {n off : Nat} {vs cs : List AV} (hr : refCells vs (cs.drop off) = true) (hc : AV.underL n cs = true) : AV.underL n (putAt off vs cs) = true := by
  rw [underL_iff] at *
  intro c hm
  simp only [putAt] at hm
  rcases List.mem_append.1 hm with hm | hm
  · rcases List.mem_append.1 hm with hm | hm
    · exact hc c (List.mem_of_mem_take hm)
    · exact underL_iff.1 (refCells_under (n := n) hr (underL_iff.2 fun c h => hc c (List.mem_of_mem_drop h))) c hm
  · exact hc c (List.mem_of_mem_drop hm)

def CRef (C : CF) : Prop := ∀ f args H Y o H', C f args H Y = some (o, H') → YRef Y → RefL H.length H H'

section
variable {E : Env} {C : CF} {Y : List YF}

theorem aStore_ref {T : TT} {b t : Nat} {H H' : List Ent} {a v : AV} (h : aStore T b H t a v = some H') : RefL b H H' := by
  unfold aStore at h
  split at h
  · cases h
  · split at h
    · split at h
      · split at h
        · rename_i cs hk
          split at h
          · rename_i hc
            cases h
            refine .set fun h hb hh n hu => ?_
            rw [hk] at hh
            cases hh
            exact putAt_under (hc.2.2 hb) hu
          · cases h
        · cases h
      · split at h
        · rename_i vr' z xs hk
          split at h
          · split at h
            · rename_i x hx
              split at h
              · rename_i hc
                cases h
                refine .set fun h hb hh n hu => ?_
                rw [hk] at hh
                cases hh
                simp only [Ent.under] at hu ⊢
                rw [underLL_iff] at *
                intro y hy
                rcases List.mem_or_eq_of_mem_set hy with hm | rfl
                · exact hu y hm
                · exact putAt_under (hc.2.2 hb) (hu x (List.mem_of_getElem? hx))
              · cases h
            · cases h
          · cases h
        · cases h
      · cases h
    · cases h

theorem under_take {n m : Nat} {xs : List (List AV)} (h : AV.underLL n xs = true) : AV.underLL n (xs.take m) = true :=
  underLL_iff.2 fun x hx => underLL_iff.1 h x (List.mem_of_mem_take hx)
theorem under_drop {n m : Nat} {xs : List (List AV)} (h : AV.underLL n xs = true) : AV.underLL n (xs.drop m) = true :=
  underLL_iff.2 fun x hx => underLL_iff.1 h x (List.mem_of_mem_drop hx)
theorem under_append {n : Nat} {xs ys : List (List AV)} (h : AV.underLL n xs = true) (h' : AV.underLL n ys = true) : AV.underLL n (xs ++ ys) = true :=
  underLL_iff.2 fun x hx => (List.mem_append.1 hx).elim (underLL_iff.1 h x) (underLL_iff.1 h' x)

theorem aAppend_ref {T : TT} {own : Bool} {b t : Nat} {H H' : List Ent} {s x r : AV} (h : aAppend T own b H t s x = some (r, H')) : RefL b H H' := by
  unfold aAppend at h
  split at h
  · cases h
  · split at h
    · cases h
    · split at h
      · split at h
        · rename_i hk
          split at h
          · rename_i hc
            cases h
            refine .set fun h hb hh n hu => ?_
            rw [hk] at hh
            cases hh
            exact under_append (under_take hu) (pureLL_under n _ (hc.2.2.2.2 hb))
          · cases h
        · cases h
      · split at h
        · split at h
          · split at h
            · split at h
              · cases h
                exact .push b H _
              · cases h
            · split at h
              · cases h
                exact .refl b H
              · cases h
          · cases h
        · cases h

theorem aCopy_ref {T : TT} {b t : Nat} {H H' : List Ent} {d s r : AV} (h : aCopy T b H t d s = some (r, H')) : RefL b H H' := by
  unfold aCopy at h
  split at h
  · cases h
  · split at h
    · cases h
    · split at h
      · split at h
        · rename_i hk
          split at h
          · rename_i hc
            cases h
            refine .set fun h hb hh n hu => ?_
            rw [hk] at hh
            cases hh
            exact under_append (under_take hu) (under_append (under_take (pureLL_under n _ (hc.2.2.2.2 hb))) (under_drop (under_drop hu)))
          · cases h
        · cases h
      · cases h

theorem aMake_ref {T : TT} {own : Bool} {b t : Nat} {H H' : List Ent} {l c r : AV} {zs : Option (List Value)} (h : aMake T own H t l c zs = some (r, H')) : RefL b H H' := by
  unfold aMake at h
  split at h
  · split at h
    · split at h
      · cases h
        exact .push b H _
      · split at h
        · cases h
          exact .refl b H
        · cases h
    · cases h
  · cases h

/-- What an operation leaves of the entities. -/
def OR.ents : OR → List Ent
  | .val _ H | .pan _ H => H

theorem ok_ents {H : List Ent} {q : Option AV} {r : OR} (h : Go.Abs.ok H q = some r) : r.ents = H := by
  cases q with
  | none => simp [Go.Abs.ok] at h
  | some v => simp only [Go.Abs.ok, Option.some.injEq] at h; subst h; rfl

theorem okH_ents {q : Option (AV × List Ent)} {r : OR} (h : okH q = some r) : ∃ v, q = some (v, r.ents) := by
  cases q with
  | none => simp [okH] at h
  | some v => obtain ⟨v1, v2⟩ := v; simp only [okH, Option.some.injEq] at h; subst h; exact ⟨v1, rfl⟩

theorem outR_ents {q : Option (Out × List Ent)} {r : OR} (h : outR q = some r) : ∃ o, q = some (o, r.ents) := by
  cases q with
  | none => simp [outR] at h
  | some v => obtain ⟨v1, v2⟩ := v; cases v1 <;> simp only [outR, Option.some.injEq] at h <;> subst h <;> exact ⟨_, rfl⟩

theorem aCallFn_ref (hC : CRef C) (hY : YRef Y) {f : Fl} {b : Nat} {H : List Ent} {callee : AV} {args : List AV} {r : OR} (hb : b ≤ H.length) (h : aCallFn C Y f H callee args = some r) : RefL b H r.ents := by
  have same : r.ents = H → RefL b H r.ents := fun e => e ▸ .refl b H
  unfold aCallFn at h
  split at h
  · split at h
    · obtain ⟨o, ho⟩ := outR_ents h
      exact (hC _ _ _ _ _ _ ho hY).less hb
    · obtain ⟨o, ho⟩ := outR_ents h
      exact (hC _ _ _ _ _ _ ho hY).less hb
    · split at h
      · cases h
      · split at h
        · split at h
          · split at h
            · cases h; exact same rfl
            · cases h
          · cases h
        · cases h
    · split at h
      · split at h
        · split at h
          · cases h; exact same rfl
          · cases h
        · split at h
          · cases h; exact same rfl
          · cases h
        · cases h
      · cases h
    · split at h
      · split at h
        · split at h
          · cases h; exact same rfl
          · cases h
        · unfold bareCall at h
          split at h
          · split at h
            · cases h; exact same rfl
            · cases h
          · split at h
            · cases h; exact same rfl
            · cases h
          · cases h
      · cases h
  · split at h
    · rename_i y hy
      obtain ⟨o, ho⟩ := outR_ents h
      exact (hY y (List.mem_of_getElem? hy) _ _ _ _ ho).less hb
    · cases h
  · cases h

theorem aBuiltin_ref {f : Fl} {b : Nat} {H : List Ent} {bi : Builtin} {tys : Array TypeId} {args : List AV} {r : OR} (h : aBuiltin E f b H bi tys args = some r) : RefL b H r.ents := by
  have same : r.ents = H → RefL b H r.ents := fun e => e ▸ .refl b H
  unfold aBuiltin at h
  split at h
  · split at h
    · exact same (ok_ents h)
    · cases h
  · split at h
    · split at h
      · obtain ⟨v, hv⟩ := okH_ents h
        exact aAppend_ref hv
      · cases h
    · cases h
  · split at h
    · obtain ⟨v, hv⟩ := okH_ents h
      exact aCopy_ref hv
    · cases h
  · exact same (ok_ents h)
  · exact same (ok_ents h)
  · cases h

theorem aop_ref (hC : CRef C) (hY : YRef Y) {a : AOp} {b : Nat} {ρ : Operand → AV} {H : List Ent} {r : OR} (hb : b ≤ H.length) (h : aopW E C Y ρ a b H = some r) : RefL b H r.ents := by
  have same : r.ents = H → RefL b H r.ents := fun e => e ▸ .refl b H
  unfold aopW at h
  split at h
  · cases h; exact same rfl
  · cases h; exact same rfl
  · split at h
    · cases h; exact same rfl
    · cases h
  · split at h
    · cases h; exact .push b H _
    · cases h
  · split at h
    · split at h
      · cases h; exact .push b H _
      · cases h
    · cases h
  · exact same (ok_ents h)
  · split at h
    · cases h
    · split at h
      · cases h
      · split at h
        · cases h; exact .push b H _
        · cases h; exact same rfl
  · split at h
    · cases h
    · exact same (ok_ents h)
  · split at h
    · rename_i H' hs
      cases h
      exact aStore_ref hs
    · cases h
  · split at h
    · cases h; exact same rfl
    · cases h
  · exact same (ok_ents h)
  · exact same (ok_ents h)
  · exact same (ok_ents h)
  · split at h
    · split at h
      · cases h; exact same rfl
      · cases h
    · cases h
  · obtain ⟨v, hv⟩ := okH_ents h
    exact aMake_ref hv
  · exact same (ok_ents h)
  · split at h
    · cases h
    · exact same (ok_ents h)
  · exact same (ok_ents h)
  · exact same (ok_ents h)
  · exact same (ok_ents h)
  · split at h
    · exact same (ok_ents h)
    · cases h
  · split at h
    · cases h; exact same rfl
    · cases h
  · split at h
    · cases h; exact same rfl
    · cases h
  · split at h
    · exact aCallFn_ref hC hY hb h
    · exact aBuiltin_ref h
    · cases h
  · cases h

/-- What a step does to the entities of the calls around. -/
def StRef (st st' : St) : Prop := st'.b = st.b ∧ st.b ≤ st'.H.length ∧ RefL st.b st.H st'.H
theorem StRef.refl {st : St} (h : st.b ≤ st.H.length) : StRef st st := ⟨rfl, h, .refl _ _⟩
theorem StRef.trans {st st' st'' : St} (h : StRef st st') (h' : StRef st' st'') : StRef st st'' := ⟨h'.1.trans h.1, h.1 ▸ h'.2.1, h.2.2.trans (h.1 ▸ h'.2.2)⟩
theorem RefL.lenB {b : Nat} {H H' : List Ent} (a : RefL b H H') (hb : b ≤ H.length) : b ≤ H'.length := by
  by_cases h : b = 0
  · omega
  · obtain ⟨h', h1, _⟩ := a (b - 1) _ (by omega) (List.getElem?_eq_getElem (by omega))
    have := (List.getElem?_eq_some_iff.1 h1).1
    omega
theorem StRef.of {st st' : St} (hb : st.b ≤ st.H.length) (h1 : st'.b = st.b) (h : RefL st.b st.H st'.H) : StRef st st' := ⟨h1, h.lenB hb, h⟩

def DRef (D : St → Option (Ex × St)) : Prop := ∀ st ex st', st.b ≤ st.H.length → D st = some (ex, st') → StRef st st'

theorem stepOp_ref (hC : CRef C) (hY : YRef Y) (a : AOp) : DRef (stepOp E C Y a) := by
  intro st ex st' hb h
  have go : ∀ {ex st'}, (match aop E C Y a st.b st.tm st.H with
        | some (.val v H) => some (Ex.normal, { st with tm := setDst a.o.dst v st.tm, H := H })
        | some (.pan v H) => some (Ex.pan v, { st with H := H })
        | none => none) = some (ex, st') → StRef st st' := by
    intro ex st' h
    split at h
    · rename_i ha
      cases h
      exact .of hb rfl (aop_ref hC hY hb ha)
    · rename_i ha
      cases h
      exact .of hb rfl (aop_ref hC hY hb ha)
    · cases h
  unfold stepOp at h
  split at h
  · exact go h
  · split at h
    · split at h
      · exact go h
      · cases h
        exact ⟨rfl, hb, .refl _ _⟩
    · cases h
      exact ⟨rfl, hb, .refl _ _⟩
    · cases h

theorem runOps_ref (hC : CRef C) (hY : YRef Y) : ∀ (ops : List AOp), DRef (runOps E C Y ops)
  | [] => fun st ex st' hb h => by cases h; exact .refl hb
  | a :: as => fun st ex st' hb h => by
    simp only [runOps] at h
    split at h
    · rename_i st1 h1
      have r1 := stepOp_ref hC hY a _ _ _ hb h1
      exact r1.trans (runOps_ref hC hY as _ _ _ (by rw [r1.1]; exact r1.2.1) h)
    · exact stepOp_ref hC hY a _ _ _ hb h

theorem RefL.take {b m : Nat} {H : List Ent} (hm : b ≤ m) : RefL b H (H.take m) := fun k h hk hh => ⟨h, by
  rw [List.getElem?_take, if_pos (by omega)]; exact hh, fun _ hu => hu⟩

theorem ghost_ref {g : Ghost} {st st' : St} (hb : st.b ≤ st.H.length) (h : ghost g st = some st') : StRef st st' := by
  unfold ghost at h
  split at h
  · simp only at h
    split at h
    · cases h
      exact .of hb rfl (.take (by omega))
    · cases h
  · split at h
    · split at h
      · rename_i hk
        split at h
        · split at h
          · cases h
            exact .of hb rfl (.set fun h hlt => by omega)
          · cases h
        · cases h
      · cases h
    · cases h
  · split at h
    · cases h
      exact .of hb rfl (.push _ _ _)
    · cases h
  · split at h
    · split at h
      · split at h
        · split at h
          · rename_i hc
            cases h
            exact .of hb rfl ((RefL.set fun h hlt => by omega).trans (.push _ _ _))
          · cases h
        · cases h
      · cases h
    · cases h
  · split at h
    · split at h
      · split at h
        · split at h
          · cases h
            exact .of hb rfl (.set fun h hlt => by omega)
          · cases h
        · cases h
      · cases h
    · cases h

theorem loopIter_ref {D : St → Option (Ex × St)} (hD : DRef D) : ∀ n, DRef (loopIter n D)
  | 0 => fun st ex st' hb h => by simp [loopIter] at h
  | n + 1 => fun st ex st' hb h => by
    simp only [loopIter] at h
    split at h
    · rename_i st1 h1
      have r1 := hD _ _ _ hb h1
      exact r1.trans (loopIter_ref hD n _ _ _ (by rw [r1.1]; exact r1.2.1) h)
    · exact hD _ _ _ hb h

theorem roundOf_ref {ps : List Nat} {tm : Slots} {k : Nat} {asg body : St → Option (Ex × St)} (ha : DRef asg) (hb : DRef body) {args : List AV} {H H' : List Ent} {o : Out} (h : roundOf ps tm k asg body args H = some (o, H')) :
    RefL H.length H H' := by
  unfold roundOf at h
  split at h
  · split at h
    · split at h
      · rename_i st h1
        have r1 := ha _ _ _ (Nat.le_refl _) h1
        split at h
        · split at h
          · rename_i ex st' h2
            have r2 := hb _ _ _ (by simp only [List.length_set]; rw [r1.1]; exact r1.2.1) h2
            have r3 : RefL H.length H st'.H := r1.2.2.trans ((RefL.set fun h _ _ n _ => rfl).trans (by have := r2.2.2; simp only at this; rw [r1.1] at this; exact this))
            unfold roundEnd at h
            split at h <;> cases h
            · exact (r3.trans (.set fun h _ _ n _ => rfl)).trans (.take (Nat.le_refl _))
            · exact (r3.trans (.set fun h _ _ n _ => rfl)).trans (.take (Nat.le_refl _))
            · exact (r3.trans (.set fun h _ _ n _ => rfl)).trans (.take (Nat.le_refl _))
          · cases h
        · cases h
      · cases h
    · cases h
  · cases h

theorem rangeFn_ref (hC : CRef C) (hY : YRef Y) {f : AV} {ps : List Nat} {asg body : St → Option (Ex × St)} (ha : DRef asg) (hb : DRef body) : DRef (rangeFn C Y f ps asg body) := by
  intro st ex st' hlen h
  unfold rangeFn at h
  split at h
  · split at h
    · rename_i hc
      have r := hC _ _ _ _ _ _ hc (fun y hy args H o H' hr => by
        rcases List.mem_append.1 hy with hy | hy
        · exact hY y hy _ _ _ _ hr
        · cases List.mem_singleton.1 hy
          exact roundOf_ref ha hb hr)
      rename_i H' 
      have r2 : RefL st.b st.H (H'.take st.H.length) := ((RefL.push st.b st.H _).trans (r.less (by simp; omega))).trans (.take hlen)
      split at h
      · cases h
      · unfold afterLoop at h
        split at h <;> cases h <;> exact .of hlen rfl r2
      · cases h
    · cases h
  · cases h

theorem den_ref (hC : CRef C) (hY : YRef Y) {lp : (St → Option (Ex × St)) → St → Option (Ex × St)} (hlp : ∀ D, DRef D → DRef (lp D)) : ∀ (ac : AC), DRef (den E C Y lp ac)
  | .skip => fun st ex st' hb h => by cases h; exact .refl hb
  | .region _ ops d => fun st ex st' hb h => by
    simp only [den] at h
    split at h
    · rename_i h1
      cases h
      exact runOps_ref hC hY ops _ _ _ hb h1
    · rename_i h1
      split at h
      · cases h
      · cases h
        exact runOps_ref hC hY ops _ _ _ hb h1
    · cases h
  | .seq a b => fun st ex st' hb h => by
    simp only [den] at h
    split at h
    · rename_i h1
      have r1 := den_ref hC hY hlp a _ _ _ hb h1
      exact r1.trans (den_ref hC hY hlp b _ _ _ (by rw [r1.1]; exact r1.2.1) h)
    · exact den_ref hC hY hlp a _ _ _ hb h
  | .cond c a b => fun st ex st' hb h => by
    simp only [den] at h
    split at h
    · split at h
      · exact den_ref hC hY hlp a _ _ _ hb h
      · exact den_ref hC hY hlp b _ _ _ hb h
    · cases h
  | .block id a => fun st ex st' hb h => by
    simp only [den] at h
    split at h
    · rename_i h1
      split at h <;> cases h <;> exact den_ref hC hY hlp a _ _ _ hb h1
    · exact den_ref hC hY hlp a _ _ _ hb h
  | .loop a => hlp _ (den_ref hC hY hlp a)
  | .exit _ => fun st ex st' hb h => by cases h; exact .refl hb
  | .ret => fun st ex st' hb h => by cases h; exact .refl hb
  | .rangeFunc f ps asg body => fun st ex st' hb h => rangeFn_ref hC hY (den_ref hC hY hlp asg) (den_ref hC hY hlp body) st ex st' hb h
  | .ghost g a => fun st ex st' hb h => by
    simp only [den] at h
    split at h
    · rename_i h1
      have r1 := ghost_ref hb h1
      exact r1.trans (den_ref hC hY hlp a _ _ _ (by rw [r1.1]; exact r1.2.1) h)
    · cases h

theorem leave_ref {T : TT} {A : AFn} {b : Nat} {st : St} {o : Out} {H' : List Ent} (h : leave T A b st = some (o, H')) : RefL b st.H H' := by
  unfold leave at h
  split at h
  · cases h
  · split at h
    · cases h; exact .refl _ _
    · split at h
      · cases h; exact .take (Nat.le_refl _)
      · split at h
        · cases h; exact .take (Nat.le_refl _)
        · cases h

theorem callN_ref {E : Env} {F : Nat → Option AFn} : ∀ n, CRef (callN E F n)
  | 0 => fun f args H Y o H' h => by simp [callN] at h
  | n + 1 => fun f args H Y o H' h hY => by
    simp only [callN] at h
    split at h
    · cases h
    · split at h
      · rename_i h1
        have r := den_ref (callN_ref n) hY (fun D hD => loopIter_ref hD n) _ _ _ _ (Nat.le_refl _) h1
        exact r.2.2.trans (leave_ref h)
      · rename_i h1
        have r := den_ref (callN_ref n) hY (fun D hD => loopIter_ref hD n) _ _ _ _ (Nat.le_refl _) h1
        exact r.2.2.trans (leave_ref h)
      · rename_i h1
        have r := den_ref (callN_ref n) hY (fun D hD => loopIter_ref hD n) _ _ _ _ (Nat.le_refl _) h1
        split at h
        · cases h
          exact r.2.2.trans (.take (Nat.le_refl _))
        · cases h
      · cases h

end
end Go.Abs
