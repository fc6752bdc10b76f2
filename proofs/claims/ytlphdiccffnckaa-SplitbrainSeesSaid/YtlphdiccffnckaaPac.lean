/- Texts put together: Stp, Stq, Ref, Cta, Ctb. -/
import Derived.Laws.Build
import Derived.Test.YtlphdiccffnckaaPab

/- One operation: what the machine does with it. -/
namespace Go.Abs

/-- The fences under which we walk: none; within a round of a range over a function. -/
def WF (F : Fence) : Prop := F = Fence.wide ∨ ∃ l, F = Fence.wide.inRound l

theorem WF.fn {F : Fence} (h : WF F) (f : FuncId) : F.fn f := by rcases h with rfl | ⟨l, rfl⟩ <;> trivial
theorem WF.depth {F : Fence} (h : WF F) : F.depth = none := by rcases h with rfl | ⟨l, rfl⟩ <;> rfl
theorem WF.calls {F : Fence} (h : WF F) {n : Nat} {P : Program} {f : FuncId} {args : Array Value} {w : World} {R : Ending → World → Prop} (hc : CallsIn Fence.wide n P f args w R) : CallsIn F n P f args w R := by
  rcases h with rfl | ⟨l, rfl⟩ <;> exact hc
theorem WF.round {F : Fence} (h : WF F) {n l : Nat} {P : Program} {f : FuncId} {tmps : Array Value} {a b : Code} {w : World} {R : Ending → World → Prop} (hc : RoundIn Fence.wide n P l f tmps a b w R) : RoundIn F n P l f tmps a b w R := by
  rcases h with rfl | ⟨l, rfl⟩ <;> exact hc

def SRel (X : Cx) (L : List Nat) (tm : Slots) (tmps : Array Value) : Prop := ∀ t, VRel X L (tm.get t) (tmps.getD t undef)
def ARel (X : Cx) (L : List Nat) (aas : List AV) (vs : Array Value) : Prop := vs.size = aas.length ∧ ∀ (i : Nat) a v, aas[i]? = some a → vs[i]? = some v → VRel X L a v
def GOk (G : Nat → AV) (X : Cx) : Prop := ∀ g, FRel X.w X.M (G g) (.pointer (some ⟨g, 0, none⟩))

/-- What a call leaves. -/
def OutPost (X : Cx) (L : List Nat) (o : Out) (H' : List Ent) : Ending → World → Prop := fun e w' =>
  ∃ X' : Cx, X'.w = w' ∧ X'.H = H' ∧ X'.Ok ∧ Trans X X' ∧
    match o with
    | .ret v => ∃ cv, e = .returned cv ∧ VRel X' L v cv
    | .pan v => ∃ cv, e = .panicked [{ v := cv, recovered := false }] ∧ VRel X' L v cv

/-- The entities below b are still there, and lead nowhere new. -/
def RefL (b : Nat) (H H' : List Ent) : Prop := ∀ (k : Nat) h, k < b → H[k]? = some h → ∃ h', H'[k]? = some h' ∧ ∀ n, Ent.under n h = true → Ent.under n h' = true

def YRef (Y : List YF) : Prop := ∀ y ∈ Y, ∀ args H o H', y args H = some (o, H') → RefL H.length H H'

/-- The yield functions do what is said of them. -/
def YSound (P : Program) (X0 : Cx) (L : List Nat) (Y : List YF) : Prop :=
  L.length = Y.length ∧ YRef Y ∧ ∀ (j : Nat) y l, Y[j]? = some y → L[j]? = some l → ∀ X L' args cargs o H', Trans X0 X → X.Ok → ARel X L' args cargs → y args X.H = some (o, H') →
    ∃ fn tmps asg body, (Instr.yield l cargs).run P X.w = .ok (.round l fn tmps asg body) X.w ∧ RoundIn Fence.wide 0 P l fn tmps asg body X.w (OutPost X L o H')

/-- The functions do what is said of them. -/
def CSound (P : Program) (G : Nat → AV) (C : CF) : Prop :=
  ∀ f args H Y o H', C f args H Y = some (o, H') → (∀ (w : World) vs, (callFunc f vs).run P w = .ok (.enter f vs) w) ∧
    ∀ X L cargs, X.H = H → X.Ok → GOk G X → ARel X L args cargs → YSound P X L Y → CallsIn Fence.wide 0 P f cargs X.w (OutPost X L o H')

theorem YSound.later {P : Program} {X0 X : Cx} {L : List Nat} {Y : List YF} (h : YSound P X0 L Y) (t : Trans X0 X) : YSound P X L Y :=
  ⟨h.1, h.2.1, fun j y l hy hl X' L' args cargs o H' t' => h.2.2 j y l hy hl X' L' args cargs o H' (t.trans t')⟩
theorem YSound.nil {P : Program} {X : Cx} : YSound P X [] [] := ⟨rfl, fun y hy => (by simp at hy), fun j y l hy => by simp at hy⟩
theorem GOk.trans {G : Nat → AV} {X X' : Cx} (h : GOk G X) (t : Trans X X') (hX : X.Ok) : GOk G X' := fun g => (h g).trans t hX
theorem SRel.trans {X X' : Cx} {L : List Nat} {tm : Slots} {tmps : Array Value} (h : SRel X L tm tmps) (t : Trans X X') (hX : X.Ok) : SRel X' L tm tmps := fun k => (h k).trans t hX

theorem beq_ne {k t : Nat} (h : k ≠ t) : Nat.beq k t = false := by
  cases hb : Nat.beq k t with
  | false => rfl
  | true => exact absurd (Nat.eq_of_beq_eq_true hb) h

theorem get_put (tm : Slots) (d t : Nat) (v : AV) : (tm.put d v).get t = if d = t then v else tm.get t := by
  by_cases h : d = t
  · subst h; simp only [Slots.put, Slots.get, Nat.beq_refl, cond_true, if_true]
  · simp only [Slots.put, Slots.get, beq_ne h, cond_false, if_neg h]

theorem SRel.put {X : Cx} {L : List Nat} {tm : Slots} {a : Act} (h : SRel X L tm a.tmps) {dst : Option Nat} {v : AV} {cv : Value} (hd : ∀ d, dst = some d → d < a.tmps.size) (hv : VRel X L v cv) :
    SRel X L (setDst dst v tm) (a.put dst cv).tmps := by
  intro t
  cases dst with
  | none => exact h t
  | some d =>
    simp only [setDst, Act.put, get_put]
    by_cases hdt : d = t
    · subst hdt
      rw [if_pos rfl]
      simp [Array.getD_eq_getD_getElem?, hd d rfl, hv]
    · rw [if_neg hdt]
      have := h t
      simp only [Array.getD_eq_getD_getElem?] at this ⊢
      rw [Array.getElem?_setIfInBounds_ne hdt]
      exact this

section
variable {P : Program} {E : Env} {C : CF} {Y : List YF} {X : Cx} {L : List Nat} {F : Fence}

theorem aval_rel (hG : GOk E.G X) {tm : Slots} {a : Act} (hS : SRel X L tm a.tmps) (x : Operand) : VRel X L (aval E.G tm x) (a.eval x) := by
  cases x with
  | tmp t => exact hS t
  | const v => exact .frz (.sc v)
  | global g => exact .frz (hG g)
  | func f => exact .frz (.fn rfl (by simp))

theorem avals_rel (hG : GOk E.G X) {tm : Slots} {a : Act} (hS : SRel X L tm a.tmps) (xs : Array Operand) : ARel X L (xs.toList.map (aval E.G tm)) (xs.map a.eval) := by
  refine ⟨by simp, fun i x v hx hv => ?_⟩
  simp only [List.getElem?_map, Array.getElem?_toList] at hx
  simp only [Array.getElem?_map] at hv
  cases hxi : xs[i]? with
  | none => simp [hxi] at hx
  | some o =>
    simp [hxi] at hx hv
    subst hx
    subst hv
    exact aval_rel hG hS o

theorem oval_rel (hG : GOk E.G X) {tm : Slots} {a : Act} (hS : SRel X L tm a.tmps) (x : Option Operand) : ORel X L (x.map (aval E.G tm)) (x.map a.eval) := by
  cases x with
  | none => trivial
  | some x => exact aval_rel hG hS x

theorem parts_rel (hG : GOk E.G X) {tm : Slots} {a : Act} (hS : SRel X L tm a.tmps) (ps : Array (Nat × Operand)) :
    (ps.map fun (i, x) => (i, a.eval x)).size = (ps.toList.map fun p => (p.1, aval E.G tm p.2)).length ∧
    ∀ (j : Nat) p q, (ps.toList.map fun p => (p.1, aval E.G tm p.2))[j]? = some p → (ps.map fun (i, x) => (i, a.eval x))[j]? = some q → p.1 = q.1 ∧ VRel X L p.2 q.2 := by
  refine ⟨by simp, fun j p q hp hq => ?_⟩
  simp only [List.getElem?_map, Array.getElem?_toList] at hp
  simp only [Array.getElem?_map] at hq
  cases hxi : ps[j]? with
  | none => simp [hxi] at hp
  | some o =>
    simp [hxi] at hp hq
    subst hp
    subst hq
    exact ⟨rfl, aval_rel hG hS o.2⟩

theorem wpIn_of_exec (hF : WF F) {o : Oper} {a : Act} {w : World} {next : Act → World → Prop} {Q : Exit → Act → World → Prop} (hd : ∀ c, o.op ≠ .defer c)
    (h : o.uponIn F 0 P a next Q ((execOp a.eval o).run P w)) : o.wpIn F 0 P a w next Q := by
  refine ⟨fun f _ => hF.fn f, ?_⟩
  rw [Oper.semAt_eq _ _ _ hd]
  exact h

/-- What must be shown behind an operation. -/
structure Goals (X : Cx) (L : List Nat) (a : Act) (dst : Option Nat) (r : OR) (next : Act → World → Prop) (Q : Exit → Act → World → Prop) : Prop where
  val : ∀ v H', r = .val v H' → ∀ (X' : Cx) cv, X'.Ok → Trans X X' → X'.H = H' → VRel X' L v cv → next (a.put dst cv) X'.w
  pan : ∀ v H', r = .pan v H' → ∀ (X' : Cx) cv, X'.Ok → Trans X X' → X'.H = H' → VRel X' L v cv → Q (.panic [{ v := cv, recovered := false }]) a X'.w

theorem enter_sound (hF : WF F) {o : Oper} {a : Act} {next : Act → World → Prop} {Q : Exit → Act → World → Prop} {f : FuncId} {args : Array Value} {w : World} {R : Ending → World → Prop}
    (hc : CallsIn Fence.wide 0 P f args w R) (hr : ∀ v w', R (.returned v) w' → next (a.put o.dst v) w') (hp : ∀ ch w', R (.panicked ch) w' → Q (.panic ch) a w') (ho : ∀ w', ¬ R .outgrown w') :
    o.uponIn F 0 P a next Q (.ok (.enter f args) w) := by
  refine ⟨fun h => by simp [hF.depth] at h, (hF.calls hc).mono fun e w' he => ?_⟩
  cases e with
  | returned v => exact hr v w' he
  | panicked ch => exact hp ch w' he
  | outgrown => exact absurd he (ho w')

theorem lendAll_rel (hX : X.Ok) : ∀ {aas rs : List AV} {vs : List Value}, lendAll X.H aas = some rs → vs.length = aas.length → (∀ (i : Nat) a v, aas[i]? = some a → vs[i]? = some v → VRel X L a v) →
    vs.length = rs.length ∧ ∀ (i : Nat) a v, rs[i]? = some a → vs[i]? = some v → FRel X.lent.w X.lent.M a v
  | [], rs, vs, h, hl, _ => by
    simp only [lendAll, Option.some.injEq] at h
    subst h
    exact ⟨hl, fun i a v ha => by simp at ha⟩
  | a :: aas, rs, [], h, hl, _ => by simp at hl
  | a :: aas, rs, v :: vs, h, hl, hp => by
    simp only [lendAll] at h
    obtain ⟨r, h1, h2⟩ := Option.bind_eq_some_iff.1 h
    obtain ⟨rs', h3, rfl⟩ := Option.map_eq_some_iff.1 h2
    obtain ⟨h4, h5⟩ := lendAll_rel (vs := vs) hX h3 (by simpa using hl) (fun i a v ha hv => hp (i + 1) a v (by simpa using ha) (by simpa using hv))
    refine ⟨by simp [h4], fun i c u hc hu => ?_⟩
    cases i with
    | zero =>
      simp at hc hu
      subst hc
      subst hu
      exact lend_run hX h1 (hp 0 a v rfl rfl)
    | succ i => exact h5 i c u (by simpa using hc) (by simpa using hu)

/-- Back from a call that was handed no memory of ours. -/
theorem back_bare (hX : X.Ok) {X1 X' : Cx} (hw : X1.w = X.w) (hM : ∀ b, X1.M b → X.M b) (hE : X1.E = []) (t : Trans X1 X') : (X.at X'.w).Ok ∧ Trans X (X.at X'.w) := by
  have hs : Later X.w X'.w := hw ▸ t.later
  have hk : ∀ b, b < X.w.heap.size → X'.w.heap[b]? = X.w.heap[b]? := fun b hb => by
    rw [← hw]
    exact t.same b (by rw [hw]; exact hb) (fun ⟨k, e, hk, _⟩ => by simp [hE] at hk)
  exact ⟨Cx.at_ok hX hs hk, Cx.at_trans hX hs hk⟩

theorem callFn_sound (hC : CSound P E.G C) (hF : WF F) (hX : X.Ok) (hG : GOk E.G X) (hY : YSound P X L Y) {f : Fl} {callee : AV} {args : List AV} {r : OR} (h : aCallFn C Y f X.H callee args = some r)
    {cf : Value} {cargs : Array Value} (hf : VRel X L callee cf) (ha : ARel X L args cargs) {o : Oper} {a : Act} {next : Act → World → Prop} {Q : Exit → Act → World → Prop} (hg : Goals X L a o.dst r next Q) :
    o.uponIn F 0 P a next Q ((do let d ← Deferred.ofValue cf cargs; invoke d.target d.args : Sem Next).run P X.w) := by
  unfold aCallFn at h
  split at h
  · rename_i g caps
    obtain ⟨vs, rfl, hl, hp⟩ := hf.fn_inv
    have hargs : ARel X L (args ++ caps) (cargs ++ vs) := by
      refine ⟨by simp [ha.1, hl], fun i x v hx hv => ?_⟩
      rw [Array.getElem?_append] at hv
      rw [List.getElem?_append] at hx
      rw [← ha.1] at hx
      split at hv
      · rw [if_pos (by assumption)] at hx
        exact ha.2 i x v hx hv
      · rw [if_neg (by assumption)] at hx
        exact hp _ x v hx hv
    have hrun : ∀ (hcf : ∀ (w : World) vs, (callFunc g vs).run P w = .ok (.enter g vs) w), (do let d ← Deferred.ofValue (.func (.func g) #[] vs) cargs; invoke d.target d.args : Sem Next).run P X.w = .ok (.enter g (cargs ++ vs)) X.w := by
      intro hcf
      simp only [Deferred.ofValue, Sem.run_bind, Sem.run_pure, Result.andThen_ok, invoke, Array.empty_append, hcf]
    have pureCase : ∀ (X1 : Cx), X1.w = X.w → (∀ b, X1.M b → X.M b) → X1.E = [] → X1.H = [] → X1.Ok → ∀ aas, ARel X1 [] aas (cargs ++ vs) → ∀ o' H1, C g aas [] [] = some (o', H1) →
        ∀ (hr : ∀ X' cv v, Trans X1 X' → X'.Ok → X'.H = H1 → VRel X' [] v cv → o' = .ret v → next (a.put o.dst cv) X'.w) (hpn : ∀ X' cv v, Trans X1 X' → VRel X' [] v cv → o' = .pan v → Q (.panic [{ v := cv, recovered := false }]) a X'.w),
        o.uponIn F 0 P a next Q ((do let d ← Deferred.ofValue (.func (.func g) #[] vs) cargs; invoke d.target d.args : Sem Next).run P X.w) := by
      intro X1 hw1 hM1 hE1 hH1 hok1 aas has o' H1 hcall hr hpn
      obtain ⟨hcf, hcs⟩ := hC g aas [] [] o' H1 hcall
      have hG1 : GOk E.G X1 := fun gg => (hG gg).keep (by rw [hw1]; exact Nat.le_refl _) fun b _ hm => ⟨by rw [hw1], fun h => hm (hM1 b h)⟩
      have hcalls := hcs X1 [] (cargs ++ vs) hH1 hok1 hG1 has .nil
      rw [hw1] at hcalls
      rw [hrun hcf]
      refine enter_sound hF hcalls (fun cv w' hpst => ?_) (fun ch w' hpst => ?_) (fun w' hpst => ?_)
      · obtain ⟨X', rfl, hH', hok', t', hm⟩ := hpst
        cases o' with
        | ret v =>
          obtain ⟨cv', he, hv⟩ := hm
          cases he
          exact hr X' _ v t' hok' hH' hv rfl
        | pan v =>
          obtain ⟨cv', he, _⟩ := hm
          cases he
      · obtain ⟨X', rfl, _, hok', t', hm⟩ := hpst
        cases o' with
        | ret v =>
          obtain ⟨cv', he, hv⟩ := hm
          cases he
        | pan v =>
          obtain ⟨cv', he, hv⟩ := hm
          cases he
          exact hpn X' _ v t' hv rfl
      · obtain ⟨X', rfl, _, _, _, hm⟩ := hpst
        cases o' with
        | ret v => obtain ⟨cv', he, _⟩ := hm; cases he
        | pan v => obtain ⟨cv', he, _⟩ := hm; cases he
    have gen : outR (C g (args ++ caps) X.H Y) = some r → o.uponIn F 0 P a next Q ((do let d ← Deferred.ofValue (.func (.func g) #[] vs) cargs; invoke d.target d.args : Sem Next).run P X.w) := by
      intro h
      cases hcall : C g (args ++ caps) X.H Y with
      | none => simp [hcall, outR] at h
      | some oh =>
        obtain ⟨o', H'⟩ := oh
        obtain ⟨hcf, hcs⟩ := hC _ _ _ _ _ _ hcall
        rw [hrun hcf]
        have hcalls := hcs X L (cargs ++ vs) rfl hX hG hargs hY
        refine enter_sound hF hcalls (fun cv w' hpst => ?_) (fun ch w' hpst => ?_) (fun w' hpst => ?_)
        · obtain ⟨X', rfl, hH, hok', t', hm⟩ := hpst
          cases o' with
          | ret v =>
            obtain ⟨cv', he, hv⟩ := hm
            cases he
            simp only [hcall, outR, Option.some.injEq] at h
            exact hg.val v H' h.symm X' _ hok' t' hH hv
          | pan v => obtain ⟨cv', he, _⟩ := hm; cases he
        · obtain ⟨X', rfl, hH, hok', t', hm⟩ := hpst
          cases o' with
          | ret v => obtain ⟨cv', he, _⟩ := hm; cases he
          | pan v =>
            obtain ⟨cv', he, hv⟩ := hm
            cases he
            simp only [hcall, outR, Option.some.injEq] at h
            exact hg.pan v H' h.symm X' _ hok' t' hH hv
        · obtain ⟨X', rfl, _, _, _, hm⟩ := hpst
          cases o' with
          | ret v => obtain ⟨cv', he, _⟩ := hm; cases he
          | pan v => obtain ⟨cv', he, _⟩ := hm; cases he
    cases f with
    | gen => exact gen h
    | own => exact gen h
    | lend =>
      simp only at h
      split at h
      · cases h
      · rename_i aas hlend
        split at h
        · rename_i hpc
          obtain ⟨q1, q2⟩ := lendAll_rel (vs := cargs.toList) hX hlend (by simpa using ha.1) (fun i x v hx hv => ha.2 i x v hx (by simpa using hv))
          have has : ARel X.lent [] (aas ++ caps) (cargs ++ vs) := by
            refine ⟨by simp at q1; simp [q1, hl], fun i x v hx hv => ?_⟩
            rw [Array.getElem?_append] at hv
            rw [List.getElem?_append] at hx
            rw [← q1, Array.length_toList] at hx
            split at hv
            · rw [if_pos (by assumption)] at hx
              exact .frz (q2 i x v hx (by simpa using hv))
            · rw [if_neg (by assumption)] at hx
              exact .frz (((hp _ x v hx hv).pure (pureL_get hpc _ _ hx)).keep (Nat.le_refl _) fun b _ hm => ⟨rfl, fun h => hm h.1⟩)
          split at h
          · rename_i v H1 hcall
            split at h
            · rename_i hflat
              cases h
              refine pureCase X.lent rfl (fun b h => h.1) rfl rfl (Cx.lent_ok hX) _ has _ _ hcall (fun X' cv v' t' _ _ hv ho => ?_) (fun X' cv v' t' hv ho => by cases ho)
              cases ho
              obtain ⟨b1, b2⟩ := back_bare hX (X1 := X.lent) rfl (fun b h => h.1) rfl t'
              exact hg.val _ _ rfl (X.at X'.w) cv b1 b2 rfl (flat_any hv hflat)
            · cases h
          · cases h
        · cases h
    | non =>
      simp only at h
      split at h
      · rename_i hpp
        simp only [Bool.and_eq_true] at hpp
        have has : ARel X.bare [] (args ++ caps) (cargs ++ vs) := by
          refine ⟨hargs.1, fun i x v hx hv => .frz ((hargs.2 i x v hx hv).pure ?_)⟩
          rw [List.getElem?_append] at hx
          split at hx
          · exact pureL_get hpp.1 _ _ hx
          · exact pureL_get hpp.2 _ _ hx
        have back : ∀ (X' : Cx) cv v, Trans X.bare X' → VRel X' [] v cv → AV.pure v = true → VRel (X.at X'.w) L v cv := by
          intro X' cv v t' hv hpv
          refine .frz ((hv.pure hpv).keep (Nat.le_refl _) fun b _ hm => ⟨rfl, fun hxm => hm (t'.mKeep b (hX.bnd b hxm) hxm ?_)⟩)
          rintro ⟨k, e, hk, _⟩
          simp [Cx.bare] at hk
        split at h
        · rename_i v H1 hcall
          split at h
          · rename_i v' hbv
            cases h
            refine pureCase X.bare rfl (fun b h => h) rfl rfl (Cx.bare_ok hX) _ has _ _ hcall (fun X' cv v0 t' hok' hH' hv ho => ?_) (fun X' cv v' t' hv ho => by cases ho)
            cases ho
            unfold bareRet at hbv
            split at hbv
            · rename_i hpv
              cases hbv
              obtain ⟨b1, b2⟩ := back_bare hX (X1 := X.bare) rfl (fun b h => h) rfl t'
              exact hg.val _ _ rfl (X.at X'.w) cv b1 b2 rfl (back X' cv _ t' hv hpv)
            · split at hbv
              · rename_i v1 hfr
                split at hbv
                · rename_i hpv
                  cases hbv
                  have hv2 := freeze_run hok' 6 _ _ _ [] (hH' ▸ hfr) hv
                  have t2 : Trans X.bare (X'.cut 0) := t'.cut (Nat.le_refl 0)
                  obtain ⟨b1, b2⟩ := back_bare hX (X1 := X.bare) rfl (fun b h => h) rfl t2
                  exact hg.val _ _ rfl (X.at X'.w) cv b1 b2 rfl (back (X'.cut 0) cv _ t2 hv2 hpv)
                · cases hbv
              · cases hbv
          · cases h
        · rename_i v H1 hcall
          split at h
          · rename_i hpv
            cases h
            refine pureCase X.bare rfl (fun b h => h) rfl rfl (Cx.bare_ok hX) _ has _ _ hcall (fun X' cv v' t' _ _ hv ho => by cases ho) (fun X' cv v' t' hv ho => ?_)
            cases ho
            obtain ⟨b1, b2⟩ := back_bare hX (X1 := X.bare) rfl (fun b h => h) rfl t'
            exact hg.pan _ _ rfl (X.at X'.w) cv b1 b2 rfl (back X' cv _ t' hv hpv)
          · cases h
        · cases h
      · cases h
    | cln =>
      simp only at h
      split at h
      · rename_i hpp
        simp only [Bool.and_eq_true] at hpp
        have back : ∀ (X' : Cx) cv v, Trans X.bare X' → VRel X' [] v cv → AV.pure v = true → VRel (X.at X'.w) L v cv := by
          intro X' cv v t' hv hpv
          refine .frz ((hv.pure hpv).keep (Nat.le_refl _) fun b _ hm => ⟨rfl, fun hxm => hm (t'.mKeep b (hX.bnd b hxm) hxm ?_)⟩)
          rintro ⟨k, e, hk, _⟩
          simp [Cx.bare] at hk
        have bareOk : ∀ {X' : Cx} {cv : Value} {v v' : AV} {H1 : List Ent}, bareRet H1 v = some v' → Trans X.bare X' → X'.Ok → X'.H = H1 → VRel X' [] v cv → (X.at X'.w).Ok ∧ Trans X (X.at X'.w) ∧ VRel (X.at X'.w) L v' cv := by
          intro X' cv v v' H1 hbv t' hok' hH' hv
          unfold bareRet at hbv
          split at hbv
          · rename_i hpv
            cases hbv
            obtain ⟨b1, b2⟩ := back_bare hX (X1 := X.bare) rfl (fun b h => h) rfl t'
            exact ⟨b1, b2, back X' cv _ t' hv hpv⟩
          · split at hbv
            · rename_i v1 hfr
              split at hbv
              · rename_i hpv
                cases hbv
                have hv2 := freeze_run hok' 6 _ _ _ [] (hH' ▸ hfr) hv
                have t2 : Trans X.bare (X'.cut 0) := t'.cut (Nat.le_refl 0)
                obtain ⟨b1, b2⟩ := back_bare hX (X1 := X.bare) rfl (fun b h => h) rfl t2
                exact ⟨b1, b2, back (X'.cut 0) cv _ t2 hv2 hpv⟩
              · cases hbv
            · cases hbv
        have bareAll : ∀ aas, ARel X.bare [] aas (cargs ++ vs) → ∀ o' H1, C g aas [] [] = some (o', H1) →
            ∀ (hr : ∀ X' cv v v', X'.Ok → Trans X X' → X'.H = X.H → bareRet H1 v = some v' → VRel X' L v' cv → o' = .ret v → next (a.put o.dst cv) X'.w) (hrn : ∀ v, o' = .ret v → (bareRet H1 v).isSome)
            (hpn : ∀ X' cv v, X'.Ok → Trans X X' → X'.H = X.H → AV.pure v = true → VRel X' L v cv → o' = .pan v → Q (.panic [{ v := cv, recovered := false }]) a X'.w) (hpp : ∀ v, o' = .pan v → AV.pure v = true),
            o.uponIn F 0 P a next Q ((do let d ← Deferred.ofValue (.func (.func g) #[] vs) cargs; invoke d.target d.args : Sem Next).run P X.w) := by
          intro aas has o' H1 hcall hr hrn hpn hpp
          refine pureCase X.bare rfl (fun b h => h) rfl rfl (Cx.bare_ok hX) _ has _ _ hcall (fun X' cv v t' hok' hH' hv ho => ?_) (fun X' cv v t' hv ho => ?_)
          · obtain ⟨v', hbv⟩ := Option.isSome_iff_exists.1 (hrn v ho)
            obtain ⟨q1, q2, q3⟩ := bareOk hbv t' hok' hH' hv
            exact hr (X.at X'.w) cv v v' q1 q2 rfl hbv q3 ho
          · obtain ⟨b1, b2⟩ := back_bare hX (X1 := X.bare) rfl (fun b h => h) rfl t'
            exact hpn (X.at X'.w) cv v b1 b2 rfl (hpp v ho) (back X' cv _ t' hv (hpp v ho)) ho
        split at h
        · rename_i f0 z0
          split at h
          · rename_i hboth
            simp only [Bool.and_eq_true] at hboth
            cases h
            have hsz : cargs.size = 1 := ha.1
            have h00 := ha.2 0 _ (cargs[0]'(by omega)) rfl (Array.getElem?_eq_getElem _)
            obtain ⟨aa, cap, hva⟩ : ∃ (aa : Option Addr) (cap : Nat), cargs[0]'(by omega) = .slice aa 0 cap := by
              generalize cargs[0]'(by omega) = cv0 at h00
              obtain ⟨aa, cap, hh, _⟩ := h00.sl_inv
              exact ⟨aa, cap, hh⟩
            have has : ARel X.bare [] (.nsl aa.isNone z0 :: caps) (cargs ++ vs) := by
              refine ⟨by simp [hsz, hl]; omega, fun i x v hx hv => .frz ?_⟩
              rw [Array.getElem?_append] at hv
              cases i with
              | zero =>
                rw [if_pos (by omega), Array.getElem?_eq_getElem (by omega)] at hv
                simp only [List.getElem?_cons_zero, Option.some.injEq] at hx hv
                rw [← hx, ← hv, hva]
                exact .nsl rfl
              | succ i =>
                rw [if_neg (by omega), hsz] at hv
                simp only [List.getElem?_cons_succ] at hx
                simp only [Nat.add_sub_cancel] at hv
                exact (hp i x v hx hv).pure (pureL_get hpp.2 _ _ hx)
            have hask : askEmpty C g (.nsl aa.isNone z0 :: caps) = true := by
              cases aa with
              | none => exact hboth.1
              | some _ => exact hboth.2
            unfold askEmpty at hask
            split at hask
            · rename_i v H1 hcall
              split at hask
              · rename_i v' hbv
                refine bareAll _ has _ _ hcall (fun X' cv v2 v2' q1 q2 q3 hb2 q4 ho => ?_) (fun v2 ho => by cases ho; simp [hbv]) (fun X' cv v _ _ _ _ _ ho => by cases ho) (fun v ho => by cases ho)
                cases ho
                rw [hbv] at hb2
                cases hb2
                refine hg.val _ _ rfl X' cv q1 q2 q3 ?_
                unfold emptySl at hask
                split at hask
                · rw [q4.sc_inv]
                  exact .frz (.slE (by simp))
                · cases q4 with
                  | frz h => cases h with
                    | slE => exact .frz (.slE (by simp))
                    | sl _ hn => simp at hn; subst hn; exact .frz (.slE (by simp))
                · cases hask
              · cases hask
            · cases hask
          · cases h
        · have has : ARel X.bare [] (args ++ caps) (cargs ++ vs) := by
            refine ⟨hargs.1, fun i x v hx hv => .frz ((hargs.2 i x v hx hv).pure ?_)⟩
            rw [List.getElem?_append] at hx
            split at hx
            · exact pureL_get hpp.1 _ _ hx
            · exact pureL_get hpp.2 _ _ hx
          unfold bareCall at h
          split at h
          · rename_i v H1 hcall
            split at h
            · rename_i v' hbv
              cases h
              refine bareAll _ has _ _ hcall (fun X' cv v2 v2' q1 q2 q3 hb2 q4 ho => ?_) (fun v2 ho => by cases ho; simp [hbv]) (fun X' cv v _ _ _ _ _ ho => by cases ho) (fun v ho => by cases ho)
              cases ho
              rw [hbv] at hb2
              cases hb2
              exact hg.val _ _ rfl X' cv q1 q2 q3 q4
            · cases h
          · rename_i v H1 hcall
            split at h
            · rename_i hpv
              cases h
              refine bareAll _ has _ _ hcall (fun X' cv v2 v2' _ _ _ _ _ ho => by cases ho) (fun v2 ho => by cases ho) (fun X' cv v q1 q2 q3 _ q4 ho => ?_) (fun v ho => by cases ho; exact hpv)
              cases ho
              exact hg.pan _ _ rfl X' cv q1 q2 q3 q4
            · cases h
          · cases h
      · cases h
  · rename_i j
    obtain ⟨l, hl, rfl⟩ := hf.yl_inv
    split at h
    · rename_i y hy
      cases hcall : y args X.H with
      | none => simp [hcall, outR] at h
      | some oh =>
        obtain ⟨o', H'⟩ := oh
        obtain ⟨fn, tmps, asg, body, hrun, hround⟩ := hY.2.2 j y l hy hl X L args cargs o' H' (Trans.refl hX) hX ha hcall
        have : (do let d ← Deferred.ofValue (.func (.yield l) #[] #[]) cargs; invoke d.target d.args : Sem Next).run P X.w = .ok (.round l fn tmps asg body) X.w := by
          simp only [Deferred.ofValue, Sem.run_bind, Sem.run_pure, Result.andThen_ok, invoke, Array.empty_append, hrun]
        rw [this]
        refine ⟨fun h => by simp [hF.depth] at h, (hF.round hround).mono fun e w' hpst => ?_⟩
        obtain ⟨X', rfl, hH, hok', t', hm⟩ := hpst
        cases o' with
        | ret v =>
          obtain ⟨cv', rfl, hv⟩ := hm
          simp only [hcall, outR, Option.some.injEq] at h
          exact hg.val v H' h.symm X' _ hok' t' hH hv
        | pan v =>
          obtain ⟨cv', rfl, hv⟩ := hm
          simp only [hcall, outR, Option.some.injEq] at h
          exact hg.pan v H' h.symm X' _ hok' t' hH hv
    · cases h
  · cases h
end
end Go.Abs

/- All operations. -/
namespace Go.Abs

section
variable {P : Program} {E : Env} {C : CF} {Y : List YF} {X : Cx} {L : List Nat} {F : Fence}

theorem builtin_append (hT : TOk P E.T) (hX : X.Ok) {f : Fl} {b0 : Nat} {tys : Array TypeId} {ty : TypeId} {consts : Array Bool} {s x : AV} {r : OR} (h : aBuiltin E f b0 X.H .append tys [s, x] = some r) {u v : Value}
    (hs : VRel X L s u) (hx : VRel X L x v) {o : Oper} {a : Act} {next : Act → World → Prop} {Q : Exit → Act → World → Prop} (hg : Goals X L a o.dst r next Q) :
    o.uponIn F 0 P a next Q ((builtin .append tys ty consts #[u, v]).run P X.w) := by
  simp only [aBuiltin] at h
  split at h
  · rename_i t t2 h0 h1
    split at h
    · rename_i hc
      cases ha : aAppend E.T (f == .own) b0 X.H t s x with
      | none => rw [ha] at h; simp [okH] at h
      | some p =>
        obtain ⟨q, H'⟩ := p
        rw [ha] at h
        simp only [okH, Option.some.injEq] at h
        obtain ⟨cv, w', hrun, X', rfl, hH, hok, t, hv⟩ := aAppend_run hT hX ha hs hx h0 h1 hc ty
        simp only [builtin, Sem.run_bind, hrun, Result.andThen_ok, Sem.run_pure]
        exact hg.val q H' h.symm X' cv hok t hH hv
    · cases h
  · cases h

theorem builtin_sound (hT : TOk P E.T) (hX : X.Ok) {f : Fl} {b0 : Nat} {b : Builtin} {tys : Array TypeId} {ty : TypeId} {consts : Array Bool} {args : List AV} {r : OR} (h : aBuiltin E f b0 X.H b tys args = some r) {cargs : Array Value}
    (ha : ARel X L args cargs) {o : Oper} {a : Act} {next : Act → World → Prop} {Q : Exit → Act → World → Prop} (hg : Goals X L a o.dst r next Q) :
    o.uponIn F 0 P a next Q ((builtin b tys ty consts cargs).run P X.w) := by
  obtain ⟨hl, hp⟩ := ha
  have one : ∀ x, args = [x] → ∃ u, cargs = #[u] ∧ VRel X L x u := by
    rintro x rfl
    obtain ⟨l⟩ := cargs
    match l, hl with
    | [u], _ => exact ⟨u, rfl, hp 0 x u rfl rfl⟩
  have two : ∀ x y, args = [x, y] → ∃ u v, cargs = #[u, v] ∧ VRel X L x u ∧ VRel X L y v := by
    rintro x y rfl
    obtain ⟨l⟩ := cargs
    match l, hl with
    | [u, v], _ => exact ⟨u, v, rfl, hp 0 x u rfl rfl, hp 1 y v rfl rfl⟩
  have okv : ∀ {q : Option AV}, Go.Abs.ok X.H q = some r → ∃ q', q = some q' ∧ r = .val q' X.H := by
    intro q hq
    cases q with
    | none => simp [Go.Abs.ok] at hq
    | some q' => simp only [Go.Abs.ok, Option.some.injEq] at hq; exact ⟨q', rfl, hq.symm⟩
  unfold aBuiltin at h
  split at h
  · rename_i x
    obtain ⟨u, rfl, hu⟩ := one x rfl
    split at h
    · rename_i t h0
      obtain ⟨q, hq, rfl⟩ := okv h
      obtain ⟨cv, hrun, hv⟩ := aLen_run hT hX hq hu h0 ty
      simp only [builtin, Sem.run_bind, hrun, Result.andThen_ok, Sem.run_pure]
      exact hg.val q X.H rfl X cv hX (Trans.refl hX) rfl hv
    · cases h
  · rename_i s x
    obtain ⟨u, v, rfl, hu, hv⟩ := two s x rfl
    exact builtin_append (P := P) (F := F) hT hX (by simp only [aBuiltin]; exact h) hu hv hg
  · rename_i s x
    obtain ⟨u, v, rfl, hu, hv⟩ := two s x rfl
    split at h
    · rename_i t h0
      cases ha : aCopy E.T b0 X.H t s x with
      | none => rw [ha] at h; simp [okH] at h
      | some p =>
        obtain ⟨q, H'⟩ := p
        rw [ha] at h
        simp only [okH, Option.some.injEq] at h
        obtain ⟨cv, w', hrun, X', rfl, hH, hok, t, hv⟩ := aCopy_run hT hX ha hu hv h0 ty
        simp only [builtin, Sem.run_bind, hrun, Result.andThen_ok, Sem.run_pure]
        exact hg.val q H' h.symm X' cv hok t hH hv
    · cases h
  · rename_i x y
    obtain ⟨u, v, rfl, hu, hv⟩ := two x y rfl
    obtain ⟨q, hq, rfl⟩ := okv h
    obtain ⟨cv, hrun, hv⟩ := aMin2_run (P := P) hq hu hv
    simp only [builtin, Builtin.min_, List.foldlM_cons, List.foldlM_nil, Sem.run_bind, hrun, Result.andThen_ok, Sem.run_pure]
    exact hg.val q X.H rfl X cv hX (Trans.refl hX) rfl hv
  · rename_i x y
    obtain ⟨u, v, rfl, hu, hv⟩ := two x y rfl
    obtain ⟨q, hq, rfl⟩ := okv h
    obtain ⟨cv, hrun, hv⟩ := aMax2_run (P := P) hq hu hv
    simp only [builtin, Builtin.max_, List.foldlM_cons, List.foldlM_nil, Sem.run_bind, hrun, Result.andThen_ok, Sem.run_pure]
    exact hg.val q X.H rfl X cv hX (Trans.refl hX) rfl hv
  · cases h

theorem aop_sound (hT : TOk P E.T) (hC : CSound P E.G C) (hF : WF F) (hX : X.Ok) (hG : GOk E.G X) (hY : YSound P X L Y) {tm : Slots} {act : Act} (hS : SRel X L tm act.tmps) {a : AOp} {b : Nat} {r : OR}
    (h : aop E C Y a b tm X.H = some r) {next : Act → World → Prop} {Q : Exit → Act → World → Prop} (hg : Goals X L act a.o.dst r next Q) : a.o.wpIn F 0 P act X.w next Q := by
  have ev := fun x => aval_rel (L := L) hG hS x
  have okv : ∀ {q : Option AV}, Go.Abs.ok X.H q = some r → ∃ q', q = some q' ∧ r = .val q' X.H := by
    intro q hq
    cases q with
    | none => simp [Go.Abs.ok] at hq
    | some q' => simp only [Go.Abs.ok, Option.some.injEq] at hq; exact ⟨q', rfl, hq.symm⟩
  have okp : ∀ {q : Option (AV × List Ent)}, okH q = some r → ∃ q' H', q = some (q', H') ∧ r = .val q' H' := by
    intro q hq
    cases q with
    | none => simp [okH] at hq
    | some q' => obtain ⟨q1, q2⟩ := q'; simp only [okH, Option.some.injEq] at hq; exact ⟨q1, q2, rfl, hq.symm⟩
  -- the result is there, the world has not turned
  have fin : ∀ {q : AV} {cv : Value}, r = .val q X.H → VRel X L q cv → a.o.uponIn F 0 P act next Q (.ok (.value cv) X.w) := fun hr hv => hg.val _ _ hr X _ hX (Trans.refl hX) rfl hv
  have finS : ∀ {q : AV} {H' : List Ent} {cv : Value} {w' : World}, r = .val q H' → Step X L q H' cv w' → a.o.uponIn F 0 P act next Q (.ok (.value cv) w') := by
    rintro q H' cv w' hr ⟨X', rfl, hH, hok, t, hv⟩
    exact hg.val q H' hr X' cv hok t hH hv
  unfold aop at h
  cases hop : a.o.op <;> simp only [aopW, hop] at h <;> (try (cases h; done)) <;> refine wpIn_of_exec hF (by rw [hop]; simp) ?_ <;> simp only [execOp, hop]
  case move x => cases h; simp only [Sem.run_pure]; exact fin rfl (ev _)
  case assign x => cases h; simp only [Sem.run_pure]; exact fin rfl (ev _)
  case pick c x y =>
    split at h
    · rename_i t hc
      cases h
      have := ev c
      rw [hc] at this
      rw [this.sc_inv]
      simp only [asBool, Sem.run_bind, Sem.run_pure, Result.andThen_ok]
      cases t
      · exact fin rfl (ev y)
      · exact fin rfl (ev x)
    · cases h
  case alloc t =>
    split at h
    · rename_i zs hz
      cases h
      obtain ⟨w', hrun, hst⟩ := alloc_run (L := L) hT hX hz
      simp only [Sem.run_bind, hrun, Result.andThen_ok, Sem.run_pure]
      exact finS rfl hst
    · cases h
  case box t x =>
    split at h
    · rename_i n g hz
      split at h
      · rename_i hc
        cases h
        obtain ⟨w', hrun, hst⟩ := box_run (P := P) hX hz (ev x) hc.2.2.1 hc.2.2.2
        simp only [Sem.run_bind, hrun, Result.andThen_ok, Sem.run_pure]
        exact finS rfl hst
      · cases h
    · cases h
  case build t parts =>
    obtain ⟨q, hq, rfl⟩ := okv h
    obtain ⟨h1, h2⟩ := parts_rel hG hS parts
    obtain ⟨cv, hrun, hv⟩ := aBuild_run hT hq h1 h2
    simp only [Sem.run_bind, hrun, Result.andThen_ok, Sem.run_pure]
    exact fin rfl hv
  case buildSlice t len parts =>
    split at h
    · cases h
    · rename_i zs hez
      split at h
      · cases h
      · rename_i z xs hsl
        obtain ⟨h1, h2⟩ := parts_rel hG hS parts
        obtain ⟨cv, w', hrun, hst⟩ := buildSlice_run hT hX hez hsl h1 h2
        simp only [Sem.run_bind, hrun, Result.andThen_ok, Sem.run_pure]
        split at h
        · rename_i hown
          cases h
          rw [if_pos hown] at hst
          exact finS rfl hst
        · rename_i hown
          cases h
          rw [if_neg hown] at hst
          exact finS rfl hst
  case load t x =>
    split at h
    · cases h
    obtain ⟨q, hq, rfl⟩ := okv h
    obtain ⟨cv, hrun, hv⟩ := aLoad_run hT hX hq (ev _)
    simp only [Sem.run_bind, hrun, Result.andThen_ok, Sem.run_pure]
    exact fin rfl hv
  case store t x y =>
    split at h
    · rename_i H' hst
      cases h
      obtain ⟨w', hrun, X', rfl, hH, hok, t⟩ := aStore_run hT hX hst (ev _) (ev _)
      simp only [Sem.run_bind, hrun, Result.andThen_ok, Sem.run_pure]
      exact hg.val _ _ rfl X' undef hok t hH (.frz (.und _))
    · cases h
  case nilCheck x =>
    split at h
    · rename_i hal
      cases h
      obtain ⟨b', o', hv, _⟩ := alive_addr hX hal (ev x)
      rw [hv]
      simp only [Sem.run_pure]
      exact fin rfl (hv ▸ ev x)
    · cases h
  case binOp op t x y yt =>
    obtain ⟨q, hq, rfl⟩ := okv h
    obtain ⟨cv, hrun, hv⟩ := aBin_run hT hq (ev x) (ev y) x y
    rw [Sem.run_bind, hrun]
    exact fin rfl hv
  case unOp op t x =>
    obtain ⟨q, hq, rfl⟩ := okv h
    obtain ⟨cv, hrun, hv⟩ := aUn_run (P := P) hq (ev _)
    simp only [Sem.run_bind, hrun, Result.andThen_ok, Sem.run_pure]
    exact fin rfl hv
  case convert src dst x =>
    obtain ⟨q, hq, rfl⟩ := okv h
    obtain ⟨cv, hrun, hv⟩ := aConv_run hT hq (ev _)
    simp only [Sem.run_bind, hrun, Result.andThen_ok, Sem.run_pure]
    exact fin rfl hv
  case makeFunc fn first captured =>
    split at h
    · rename_i f
      split at h
      · rename_i hc
        cases h
        have : first = #[] := Array.eq_empty_of_size_eq_zero hc
        subst this
        simp only [Instr.makeFunc, Sem.run_bind, Sem.run_pure, Result.andThen_ok, List.map_toArray, List.map_nil]
        obtain ⟨h1, h2⟩ := avals_rel (L := L) hG hS captured
        exact fin rfl (.fn h1 h2)
      · cases h
    · cases h
  case makeSlice t l c =>
    obtain ⟨q, H', hq, rfl⟩ := okp h
    obtain ⟨cv, w', hrun, hst⟩ := aMake_run hT hX hq (ev _) (ev _)
    simp only [Sem.run_bind, hrun, Result.andThen_ok, Sem.run_pure]
    exact finS rfl hst
  case slice t x lo hi mx =>
    obtain ⟨q, hq, rfl⟩ := okv h
    obtain ⟨cv, hrun, hv⟩ := aSlice_run hT hX hq (ev _) (oval_rel hG hS _) (oval_rel hG hS _) (oval_rel hG hS _)
    simp only [Sem.run_bind, hrun, Result.andThen_ok, Sem.run_pure]
    exact fin rfl hv
  case fieldAddr t x f =>
    split at h
    · cases h
    obtain ⟨q, hq, rfl⟩ := okv h
    obtain ⟨cv, hrun, hv⟩ := aField_run hT hX hq (ev _)
    simp only [Sem.run_bind, hrun, Result.andThen_ok, Sem.run_pure]
    exact fin rfl hv
  case field t x f =>
    obtain ⟨q, hq, rfl⟩ := okv h
    obtain ⟨cv, hrun, hv⟩ := aFieldVal_run hT hq (ev _)
    simp only [Sem.run_bind, hrun, Result.andThen_ok, Sem.run_pure]
    exact fin rfl hv
  case indexAddr t x ix =>
    obtain ⟨q, hq, rfl⟩ := okv h
    obtain ⟨cv, hrun, hv⟩ := aIndexAddr_run hT hX hq (ev _) (ev _)
    simp only [Sem.run_bind, hrun, Result.andThen_ok, Sem.run_pure]
    exact fin rfl hv
  case index t x ix =>
    obtain ⟨q, hq, rfl⟩ := okv h
    obtain ⟨cv, hrun, hv⟩ := aIndex_run hT hq (ev _) (ev _)
    simp only [Sem.run_bind, hrun, Result.andThen_ok, Sem.run_pure]
    exact fin rfl hv
  case extract x i =>
    split at h
    · rename_i vs hvs
      obtain ⟨q, hq, rfl⟩ := okv h
      have hx := ev x
      rw [hvs] at hx
      obtain ⟨us, hus, hl, hp⟩ := hx.tup_inv
      rw [hus]
      have hi := (List.getElem?_eq_some_iff.1 hq).1
      have hu : us[i]? = some (us[i]'(by omega)) := Array.getElem?_eq_getElem _
      simp only [Instr.extract, hu, Sem.run_bind, Sem.run_pure, Result.andThen_ok]
      exact fin rfl (hp i q _ hq hu)
    · cases h
  case makeInterface t x =>
    split at h
    · rename_i hi
      cases h
      obtain ⟨k, hk⟩ := Option.isSome_iff_exists.1 hi
      have hrun : (Instr.makeInterface t (act.eval x)).run P X.w = .ok (.iface t (act.eval x)) X.w := by
        have hu := hT.int _ _ hk
        exact run_makeInterface X.w t _ (by unfold Program.concrete; rw [hu])
      simp only [Sem.run_bind, hrun, Result.andThen_ok, Sem.run_pure]
      exact fin rfl (.ifc (ev x))
    · cases h
  case panic x =>
    split at h
    · rename_i t v hx
      cases h
      have hv := ev x
      rw [hx] at hv
      obtain ⟨u, hu, hr⟩ := hv.ifc_inv
      rw [hu]
      simp only [Instr.panic, Sem.run_bind, run_goPanic, Result.andThen_halt]
      exact hg.pan _ _ rfl X _ hX (Trans.refl hX) rfl (.ifc hr)
    · cases h
  case call c =>
    split at h
    · rename_i f hcal
      have hrun : (do let d ← resolve act.eval c a.o.type; invoke d.target d.args : Sem Next) = (do let d ← Deferred.ofValue (act.eval f) (c.args.map act.eval); invoke d.target d.args : Sem Next) := by
        simp only [resolve, hcal]
      rw [hrun]
      exact callFn_sound hC hF hX hG hY h (ev f) (avals_rel hG hS c.args) hg
    · rename_i bi hcal
      simp only [resolve, hcal, Sem.run_bind, Sem.run_pure, Result.andThen_ok, invoke]
      exact builtin_sound hT hX h (avals_rel hG hS c.args) hg
    · cases h
end
end Go.Abs

/- What the evaluator does to the entities of the calls around: they come to lead nowhere new. -/
namespace Go.Abs

theorem RefL.refl (b : Nat) (H : List Ent) : RefL b H H := fun _ h _ hh => ⟨h, hh, fun _ hu => hu⟩
theorem RefL.trans {b : Nat} {H H' H'' : List Ent} (a : RefL b H H') (c : RefL b H' H'') : RefL b H H'' := fun k h hk hh => by
  obtain ⟨h', h1, h2⟩ := a k h hk hh
  obtain ⟨h'', h3, h4⟩ := c k h' hk h1
  exact ⟨h'', h3, fun n hu => h4 n (h2 n hu)⟩
theorem RefL.less {b b' : Nat} {H H' : List Ent} (a : RefL b H H') (hb : b' ≤ b) : RefL b' H H' := fun k h hk => a k h (Nat.lt_of_lt_of_le hk hb)
theorem RefL.push (b : Nat) (H l : List Ent) : RefL b H (H ++ l) := fun k h _ hh => ⟨h, by
  rw [List.getElem?_append_left (List.getElem?_eq_some_iff.1 hh).1]; exact hh, fun _ hu => hu⟩
theorem RefL.set {b k : Nat} {H : List Ent} {h' : Ent} (hh : ∀ h, k < b → H[k]? = some h → ∀ n, Ent.under n h = true → Ent.under n h' = true) : RefL b H (H.set k h') := fun j h hj hH => by
  have hl := (List.getElem?_eq_some_iff.1 hH).1
  by_cases hjk : k = j
  · subst hjk
    exact ⟨h', by simp [hl], hh h hj hH⟩
  · exact ⟨h, by rw [List.getElem?_set_ne hjk]; exact hH, fun _ hu => hu⟩
theorem RefL.len {H H' : List Ent} (a : RefL H.length H H') : H.length ≤ H'.length := by
  by_cases h : H.length = 0
  · omega
  · obtain ⟨h', h1, _⟩ := a (H.length - 1) _ (by omega) (List.getElem?_eq_getElem (by omega))
    have := (List.getElem?_eq_some_iff.1 h1).1
    omega

mutual
theorem pure_under (n : Nat) : ∀ (v : AV), AV.pure v = true → AV.under n v = true
  | .und, _ | .sc _, _ | .sl .., _ | .fp _, _ | .nsl .., _ => rfl
  | .agg cs, h => pureL_under n cs h
  | .tup cs, h => pureL_under n cs h
  | .fn _ cs, h => pureL_under n cs h
  | .ifc _ v, h => pure_under n v h
  | .yl _, h => by simp [AV.pure] at h
  | .bp .., h => by simp [AV.pure] at h
  | .bxs .., h => by simp [AV.pure] at h
  | .os .., h => by simp [AV.pure] at h
  | .op .., h => by simp [AV.pure] at h
theorem pureL_under (n : Nat) : ∀ (vs : List AV), AV.pureL vs = true → AV.underL n vs = true
  | [], _ => rfl
  | v :: vs, h => by
    simp only [AV.pureL, Bool.and_eq_true] at h
    simp only [AV.underL, Bool.and_eq_true]
    exact ⟨pure_under n v h.1, pureL_under n vs h.2⟩
end

theorem pureLL_under (n : Nat) : ∀ (xs : List (List AV)), AV.pureLL xs = true → AV.underLL n xs = true
  | [], _ => rfl
  | x :: xs, h => by
    simp only [AV.pureLL, Bool.and_eq_true] at h
    simp only [AV.underLL, Bool.and_eq_true]
    exact ⟨pureL_under n x h.1, pureLL_under n xs h.2⟩

theorem underL_iff {n : Nat} : ∀ {cs : List AV}, AV.underL n cs = true ↔ ∀ c ∈ cs, AV.under n c = true
  | [] => by simp [AV.underL]
  | c :: cs => by simp [AV.underL, underL_iff]
theorem underLL_iff {n : Nat} : ∀ {xs : List (List AV)}, AV.underLL n xs = true ↔ ∀ x ∈ xs, AV.underL n x = true
  | [] => by simp [AV.underLL]
  | x :: xs => by simp [AV.underLL, underLL_iff]

theorem refCell_under {n : Nat} {v c : AV} (h : refCell v c = true) (hc : AV.under n c = true) : AV.under n v = true := by
  unfold refCell at h
  split at h
  · rw [Nat.eq_of_beq_eq_true h]
    simpa [AV.under] using hc
  · exact pure_under n _ h

theorem refCells_under {n : Nat} : ∀ {vs cs : List AV}, refCells vs cs = true → AV.underL n cs = true → AV.underL n vs = true
  | [], _, _, _ => rfl
  | _ :: _, [], h, _ => by simp [refCells] at h
  | v :: vs, c :: cs, h, hc => by
    simp only [refCells, Bool.and_eq_true] at h
    simp only [AV.underL, Bool.and_eq_true] at hc ⊢
    exact ⟨refCell_under h.1 hc.1, refCells_under h.2 hc.2⟩

theorem putAt_under {n off : Nat} {vs cs : List AV} (hr : refCells vs (cs.drop off) = true) (hc : AV.underL n cs = true) : AV.underL n (putAt off vs cs) = true := by
  rw [underL_iff] at *
  intro c hm
  simp only [putAt] at hm
  rcases List.mem_append.1 hm with hm | hm
  · rcases List.mem_append.1 hm with hm | hm
    · exact hc c (List.mem_of_mem_take hm)
    · exact underL_iff.1 (refCells_under (n := n) hr (underL_iff.2 fun c h => hc c (List.mem_of_mem_drop h))) c hm
  · exact hc c (List.mem_of_mem_drop hm)

def CRef (C : CF) : Prop := ∀ f args H Y o H', C f args H Y = some (o, H') → YRef Y → RefL H.length H H'

section
variable {E : Env} {C : CF} {Y : List YF}

theorem aStore_ref {T : TT} {b t : Nat} {H H' : List Ent} {a v : AV} (h : aStore T b H t a v = some H') : RefL b H H' := by
  unfold aStore at h
  split at h
  · cases h
  · split at h
    · split at h
      · split at h
        · rename_i cs hk
          split at h
          · rename_i hc
            cases h
            refine .set fun h hb hh n hu => ?_
            rw [hk] at hh
            cases hh
            exact putAt_under (hc.2.2 hb) hu
          · cases h
        · cases h
      · split at h
        · rename_i vr' z xs hk
          split at h
          · split at h
            · rename_i x hx
              split at h
              · rename_i hc
                cases h
                refine .set fun h hb hh n hu => ?_
                rw [hk] at hh
                cases hh
                simp only [Ent.under] at hu ⊢
                rw [underLL_iff] at *
                intro y hy
                rcases List.mem_or_eq_of_mem_set hy with hm | rfl
                · exact hu y hm
                · exact putAt_under (hc.2.2 hb) (hu x (List.mem_of_getElem? hx))
              · cases h
            · cases h
          · cases h
        · cases h
      · cases h
    · cases h

theorem under_take {n m : Nat} {xs : List (List AV)} (h : AV.underLL n xs = true) : AV.underLL n (xs.take m) = true :=
  underLL_iff.2 fun x hx => underLL_iff.1 h x (List.mem_of_mem_take hx)
theorem under_drop {n m : Nat} {xs : List (List AV)} (h : AV.underLL n xs = true) : AV.underLL n (xs.drop m) = true :=
  underLL_iff.2 fun x hx => underLL_iff.1 h x (List.mem_of_mem_drop hx)
theorem under_append {n : Nat} {xs ys : List (List AV)} (h : AV.underLL n xs = true) (h' : AV.underLL n ys = true) : AV.underLL n (xs ++ ys) = true :=
  underLL_iff.2 fun x hx => (List.mem_append.1 hx).elim (underLL_iff.1 h x) (underLL_iff.1 h' x)

theorem aAppend_ref {T : TT} {own : Bool} {b t : Nat} {H H' : List Ent} {s x r : AV} (h : aAppend T own b H t s x = some (r, H')) : RefL b H H' := by
  unfold aAppend at h
  split at h
  · cases h
  · split at h
    · cases h
    · split at h
      · split at h
        · rename_i hk
          split at h
          · rename_i hc
            cases h
            refine .set fun h hb hh n hu => ?_
            rw [hk] at hh
            cases hh
            exact under_append (under_take hu) (pureLL_under n _ (hc.2.2.2.2 hb))
          · cases h
        · cases h
      · split at h
        · split at h
          · split at h
            · split at h
              · cases h
                exact .push b H _
              · cases h
            · split at h
              · cases h
                exact .refl b H
              · cases h
          · cases h
        · cases h

theorem aCopy_ref {T : TT} {b t : Nat} {H H' : List Ent} {d s r : AV} (h : aCopy T b H t d s = some (r, H')) : RefL b H H' := by
  unfold aCopy at h
  split at h
  · cases h
  · split at h
    · cases h
    · split at h
      · split at h
        · rename_i hk
          split at h
          · rename_i hc
            cases h
            refine .set fun h hb hh n hu => ?_
            rw [hk] at hh
            cases hh
            exact under_append (under_take hu) (under_append (under_take (pureLL_under n _ (hc.2.2.2.2 hb))) (under_drop (under_drop hu)))
          · cases h
        · cases h
      · cases h

theorem aMake_ref {T : TT} {own : Bool} {b t : Nat} {H H' : List Ent} {l c r : AV} {zs : Option (List Value)} (h : aMake T own H t l c zs = some (r, H')) : RefL b H H' := by
  unfold aMake at h
  split at h
  · split at h
    · split at h
      · cases h
        exact .push b H _
      · split at h
        · cases h
          exact .refl b H
        · cases h
    · cases h
  · cases h

/-- What an operation leaves of the entities. -/
def OR.ents : OR → List Ent
  | .val _ H | .pan _ H => H

theorem ok_ents {H : List Ent} {q : Option AV} {r : OR} (h : Go.Abs.ok H q = some r) : r.ents = H := by
  cases q with
  | none => simp [Go.Abs.ok] at h
  | some v => simp only [Go.Abs.ok, Option.some.injEq] at h; subst h; rfl

theorem okH_ents {q : Option (AV × List Ent)} {r : OR} (h : okH q = some r) : ∃ v, q = some (v, r.ents) := by
  cases q with
  | none => simp [okH] at h
  | some v => obtain ⟨v1, v2⟩ := v; simp only [okH, Option.some.injEq] at h; subst h; exact ⟨v1, rfl⟩

theorem outR_ents {q : Option (Out × List Ent)} {r : OR} (h : outR q = some r) : ∃ o, q = some (o, r.ents) := by
  cases q with
  | none => simp [outR] at h
  | some v => obtain ⟨v1, v2⟩ := v; cases v1 <;> simp only [outR, Option.some.injEq] at h <;> subst h <;> exact ⟨_, rfl⟩

theorem aCallFn_ref (hC : CRef C) (hY : YRef Y) {f : Fl} {b : Nat} {H : List Ent} {callee : AV} {args : List AV} {r : OR} (hb : b ≤ H.length) (h : aCallFn C Y f H callee args = some r) : RefL b H r.ents := by
  have same : r.ents = H → RefL b H r.ents := fun e => e ▸ .refl b H
  unfold aCallFn at h
  split at h
  · split at h
    · obtain ⟨o, ho⟩ := outR_ents h
      exact (hC _ _ _ _ _ _ ho hY).less hb
    · obtain ⟨o, ho⟩ := outR_ents h
      exact (hC _ _ _ _ _ _ ho hY).less hb
    · split at h
      · cases h
      · split at h
        · split at h
          · split at h
            · cases h; exact same rfl
            · cases h
          · cases h
        · cases h
    · split at h
      · split at h
        · split at h
          · cases h; exact same rfl
          · cases h
        · split at h
          · cases h; exact same rfl
          · cases h
        · cases h
      · cases h
    · split at h
      · split at h
        · split at h
          · cases h; exact same rfl
          · cases h
        · unfold bareCall at h
          split at h
          · split at h
            · cases h; exact same rfl
            · cases h
          · split at h
            · cases h; exact same rfl
            · cases h
          · cases h
      · cases h
  · split at h
    · rename_i y hy
      obtain ⟨o, ho⟩ := outR_ents h
      exact (hY y (List.mem_of_getElem? hy) _ _ _ _ ho).less hb
    · cases h
  · cases h

theorem aBuiltin_ref {f : Fl} {b : Nat} {H : List Ent} {bi : Builtin} {tys : Array TypeId} {args : List AV} {r : OR} (h : aBuiltin E f b H bi tys args = some r) : RefL b H r.ents := by
  have same : r.ents = H → RefL b H r.ents := fun e => e ▸ .refl b H
  unfold aBuiltin at h
  split at h
  · split at h
    · exact same (ok_ents h)
    · cases h
  · split at h
    · split at h
      · obtain ⟨v, hv⟩ := okH_ents h
        exact aAppend_ref hv
      · cases h
    · cases h
  · split at h
    · obtain ⟨v, hv⟩ := okH_ents h
      exact aCopy_ref hv
    · cases h
  · exact same (ok_ents h)
  · exact same (ok_ents h)
  · cases h

theorem aop_ref (hC : CRef C) (hY : YRef Y) {a : AOp} {b : Nat} {ρ : Operand → AV} {H : List Ent} {r : OR} (hb : b ≤ H.length) (h : aopW E C Y ρ a b H = some r) : RefL b H r.ents := by
  have same : r.ents = H → RefL b H r.ents := fun e => e ▸ .refl b H
  unfold aopW at h
  split at h
  · cases h; exact same rfl
  · cases h; exact same rfl
  · split at h
    · cases h; exact same rfl
    · cases h
  · split at h
    · cases h; exact .push b H _
    · cases h
  · split at h
    · split at h
      · cases h; exact .push b H _
      · cases h
    · cases h
  · exact same (ok_ents h)
  · split at h
    · cases h
    · split at h
      · cases h
      · split at h
        · cases h; exact .push b H _
        · cases h; exact same rfl
  · split at h
    · cases h
    · exact same (ok_ents h)
  · split at h
    · rename_i H' hs
      cases h
      exact aStore_ref hs
    · cases h
  · split at h
    · cases h; exact same rfl
    · cases h
  · exact same (ok_ents h)
  · exact same (ok_ents h)
  · exact same (ok_ents h)
  · split at h
    · split at h
      · cases h; exact same rfl
      · cases h
    · cases h
  · obtain ⟨v, hv⟩ := okH_ents h
    exact aMake_ref hv
  · exact same (ok_ents h)
  · split at h
    · cases h
    · exact same (ok_ents h)
  · exact same (ok_ents h)
  · exact same (ok_ents h)
  · exact same (ok_ents h)
  · split at h
    · exact same (ok_ents h)
    · cases h
  · split at h
    · cases h; exact same rfl
    · cases h
  · split at h
    · cases h; exact same rfl
    · cases h
  · split at h
    · exact aCallFn_ref hC hY hb h
    · exact aBuiltin_ref h
    · cases h
  · cases h

/-- What a step does to the entities of the calls around. -/
def StRef (st st' : St) : Prop := st'.b = st.b ∧ st.b ≤ st'.H.length ∧ RefL st.b st.H st'.H
theorem StRef.refl {st : St} (h : st.b ≤ st.H.length) : StRef st st := ⟨rfl, h, .refl _ _⟩
theorem StRef.trans {st st' st'' : St} (h : StRef st st') (h' : StRef st' st'') : StRef st st'' := ⟨h'.1.trans h.1, h.1 ▸ h'.2.1, h.2.2.trans (h.1 ▸ h'.2.2)⟩
theorem RefL.lenB {b : Nat} {H H' : List Ent} (a : RefL b H H') (hb : b ≤ H.length) : b ≤ H'.length := by
  by_cases h : b = 0
  · omega
  · obtain ⟨h', h1, _⟩ := a (b - 1) _ (by omega) (List.getElem?_eq_getElem (by omega))
    have := (List.getElem?_eq_some_iff.1 h1).1
    omega
theorem StRef.of {st st' : St} (hb : st.b ≤ st.H.length) (h1 : st'.b = st.b) (h : RefL st.b st.H st'.H) : StRef st st' := ⟨h1, h.lenB hb, h⟩

def DRef (D : St → Option (Ex × St)) : Prop := ∀ st ex st', st.b ≤ st.H.length → D st = some (ex, st') → StRef st st'

theorem stepOp_ref (hC : CRef C) (hY : YRef Y) (a : AOp) : DRef (stepOp E C Y a) := by
  intro st ex st' hb h
  have go : ∀ {ex st'}, (match aop E C Y a st.b st.tm st.H with
        | some (.val v H) => some (Ex.normal, { st with tm := setDst a.o.dst v st.tm, H := H })
        | some (.pan v H) => some (Ex.pan v, { st with H := H })
        | none => none) = some (ex, st') → StRef st st' := by
    intro ex st' h
    split at h
    · rename_i ha
      cases h
      exact .of hb rfl (aop_ref hC hY hb ha)
    · rename_i ha
      cases h
      exact .of hb rfl (aop_ref hC hY hb ha)
    · cases h
  unfold stepOp at h
  split at h
  · exact go h
  · split at h
    · split at h
      · exact go h
      · cases h
        exact ⟨rfl, hb, .refl _ _⟩
    · cases h
      exact ⟨rfl, hb, .refl _ _⟩
    · cases h

theorem runOps_ref (hC : CRef C) (hY : YRef Y) : ∀ (ops : List AOp), DRef (runOps E C Y ops)
  | [] => fun st ex st' hb h => by cases h; exact .refl hb
  | a :: aas => fun st ex st' hb h => by
    simp only [runOps] at h
    split at h
    · rename_i st1 h1
      have r1 := stepOp_ref hC hY a _ _ _ hb h1
      exact r1.trans (runOps_ref hC hY aas _ _ _ (by rw [r1.1]; exact r1.2.1) h)
    · exact stepOp_ref hC hY a _ _ _ hb h

theorem RefL.take {b m : Nat} {H : List Ent} (hm : b ≤ m) : RefL b H (H.take m) := fun k h hk hh => ⟨h, by
  rw [List.getElem?_take, if_pos (by omega)]; exact hh, fun _ hu => hu⟩

theorem ghost_ref {g : Ghost} {st st' : St} (hb : st.b ≤ st.H.length) (h : ghost g st = some st') : StRef st st' := by
  unfold ghost at h
  split at h
  · simp only at h
    split at h
    · cases h
      exact .of hb rfl (.take (by omega))
    · cases h
  · split at h
    · split at h
      · rename_i hk
        split at h
        · split at h
          · cases h
            exact .of hb rfl (.set fun h hlt => by omega)
          · cases h
        · cases h
      · cases h
    · cases h
  · split at h
    · cases h
      exact .of hb rfl (.push _ _ _)
    · cases h
  · split at h
    · split at h
      · split at h
        · split at h
          · rename_i hc
            cases h
            exact .of hb rfl ((RefL.set fun h hlt => by omega).trans (.push _ _ _))
          · cases h
        · cases h
      · cases h
    · cases h
  · split at h
    · split at h
      · split at h
        · split at h
          · cases h
            exact .of hb rfl (.set fun h hlt => by omega)
          · cases h
        · cases h
      · cases h
    · cases h
  · cases h
    split
    · exact .of hb rfl (.refl _ _)
    · exact .of hb rfl (.refl _ _)

theorem loopIter_ref {D : St → Option (Ex × St)} (hD : DRef D) : ∀ n, DRef (loopIter n D)
  | 0 => fun st ex st' hb h => by simp [loopIter] at h
  | n + 1 => fun st ex st' hb h => by
    simp only [loopIter] at h
    split at h
    · rename_i st1 h1
      have r1 := hD _ _ _ hb h1
      exact r1.trans (loopIter_ref hD n _ _ _ (by rw [r1.1]; exact r1.2.1) h)
    · exact hD _ _ _ hb h

theorem roundOf_ref {ps : List Nat} {tm : Slots} {k : Nat} {asg body : St → Option (Ex × St)} (ha : DRef asg) (hb : DRef body) {args : List AV} {H H' : List Ent} {o : Out} (h : roundOf ps tm k asg body args H = some (o, H')) :
    RefL H.length H H' := by
  unfold roundOf at h
  split at h
  · split at h
    · split at h
      · rename_i st h1
        have r1 := ha _ _ _ (Nat.le_refl _) h1
        split at h
        · split at h
          · rename_i ex st' h2
            have r2 := hb _ _ _ (by simp only [List.length_set]; rw [r1.1]; exact r1.2.1) h2
            have r3 : RefL H.length H st'.H := r1.2.2.trans ((RefL.set fun h _ _ n _ => rfl).trans (by have := r2.2.2; simp only at this; rw [r1.1] at this; exact this))
            unfold roundEnd at h
            split at h <;> cases h
            · exact (r3.trans (.set fun h _ _ n _ => rfl)).trans (.take (Nat.le_refl _))
            · exact (r3.trans (.set fun h _ _ n _ => rfl)).trans (.take (Nat.le_refl _))
            · exact (r3.trans (.set fun h _ _ n _ => rfl)).trans (.take (Nat.le_refl _))
          · cases h
        · cases h
      · cases h
    · cases h
  · cases h

theorem rangeFn_ref (hC : CRef C) (hY : YRef Y) {f : AV} {ps : List Nat} {asg body : St → Option (Ex × St)} (ha : DRef asg) (hb : DRef body) : DRef (rangeFn C Y f ps asg body) := by
  intro st ex st' hlen h
  unfold rangeFn at h
  split at h
  · split at h
    · rename_i hc
      have r := hC _ _ _ _ _ _ hc (fun y hy args H o H' hr => by
        rcases List.mem_append.1 hy with hy | hy
        · exact hY y hy _ _ _ _ hr
        · cases List.mem_singleton.1 hy
          exact roundOf_ref ha hb hr)
      rename_i H' 
      have r2 : RefL st.b st.H (H'.take st.H.length) := ((RefL.push st.b st.H _).trans (r.less (by simp; omega))).trans (.take hlen)
      split at h
      · cases h
      · unfold afterLoop at h
        split at h <;> cases h <;> exact .of hlen rfl r2
      · cases h
    · cases h
  · cases h

theorem den_ref (hC : CRef C) (hY : YRef Y) {lp : (St → Option (Ex × St)) → St → Option (Ex × St)} (hlp : ∀ D, DRef D → DRef (lp D)) : ∀ (ac : AC), DRef (den E C Y lp ac)
  | .skip => fun st ex st' hb h => by cases h; exact .refl hb
  | .region _ ops d => fun st ex st' hb h => by
    simp only [den] at h
    split at h
    · rename_i h1
      cases h
      exact runOps_ref hC hY ops _ _ _ hb h1
    · rename_i h1
      split at h
      · cases h
      · cases h
        exact runOps_ref hC hY ops _ _ _ hb h1
    · cases h
  | .seq a b => fun st ex st' hb h => by
    simp only [den] at h
    split at h
    · rename_i h1
      have r1 := den_ref hC hY hlp a _ _ _ hb h1
      exact r1.trans (den_ref hC hY hlp b _ _ _ (by rw [r1.1]; exact r1.2.1) h)
    · exact den_ref hC hY hlp a _ _ _ hb h
  | .cond c a b => fun st ex st' hb h => by
    simp only [den] at h
    split at h
    · split at h
      · exact den_ref hC hY hlp a _ _ _ hb h
      · exact den_ref hC hY hlp b _ _ _ hb h
    · cases h
  | .block id a => fun st ex st' hb h => by
    simp only [den] at h
    split at h
    · rename_i h1
      split at h <;> cases h <;> exact den_ref hC hY hlp a _ _ _ hb h1
    · exact den_ref hC hY hlp a _ _ _ hb h
  | .loop a => hlp _ (den_ref hC hY hlp a)
  | .exit _ => fun st ex st' hb h => by cases h; exact .refl hb
  | .ret => fun st ex st' hb h => by cases h; exact .refl hb
  | .rangeFunc f ps asg body => fun st ex st' hb h => rangeFn_ref hC hY (den_ref hC hY hlp asg) (den_ref hC hY hlp body) st ex st' hb h
  | .ghost g a => fun st ex st' hb h => by
    simp only [den] at h
    split at h
    · rename_i h1
      have r1 := ghost_ref hb h1
      exact r1.trans (den_ref hC hY hlp a _ _ _ (by rw [r1.1]; exact r1.2.1) h)
    · cases h

theorem leave_ref {T : TT} {A : AFn} {b : Nat} {st : St} {o : Out} {H' : List Ent} (h : leave T A b st = some (o, H')) : RefL b st.H H' := by
  unfold leave at h
  split at h
  · cases h
  · split at h
    · cases h; exact .refl _ _
    · split at h
      · cases h; exact .take (Nat.le_refl _)
      · split at h
        · cases h; exact .take (Nat.le_refl _)
        · cases h

theorem callN_ref {E : Env} {F : Nat → Option AFn} : ∀ n, CRef (callN E F n)
  | 0 => fun f args H Y o H' h => by simp [callN] at h
  | n + 1 => fun f args H Y o H' h hY => by
    simp only [callN] at h
    split at h
    · cases h
    · split at h
      · rename_i h1
        have r := den_ref (callN_ref n) hY (fun D hD => loopIter_ref hD n) _ _ _ _ (Nat.le_refl _) h1
        exact r.2.2.trans (leave_ref h)
      · rename_i h1
        have r := den_ref (callN_ref n) hY (fun D hD => loopIter_ref hD n) _ _ _ _ (Nat.le_refl _) h1
        exact r.2.2.trans (leave_ref h)
      · rename_i h1
        have r := den_ref (callN_ref n) hY (fun D hD => loopIter_ref hD n) _ _ _ _ (Nat.le_refl _) h1
        split at h
        · cases h
          exact r.2.2.trans (.take (Nat.le_refl _))
        · cases h
      · cases h

end
end Go.Abs

/- Operations in their places: one behind the other. -/
namespace Go.Abs

/-- The written form of an operation is in order. -/
def AOp.fine (nt : Nat) (ops : List AOp) (a : AOp) : Bool :=
  (match a.o.dst with
   | some d => decide (d < nt)
   | none => true) &&
  (match a.o.guard, a.g with
   | none, none => true
   | some (j, w), some (g, w') => (w == w') && (match ops[j]? with
     | some o => (match o.o.dst with
       | some d => Nat.beq d g
       | none => false)
     | none => false)
   | _, _ => false)

def mark (r : Nat) : Deferred := { target := .collected r, args := #[] }

/-- The marks of the loops over functions, in their order. -/
def DefOk (X0 : Cx) (ds : List Deferred) (X : Cx) : Prop := ∃ rs : List Nat, ds = rs.map mark ∧ rs.Nodup ∧ ∀ r ∈ rs, X0.w.heap.size ≤ r ∧ X.w.heap[r]? = some (.deferred (some []))

/-- Where the evaluation is, and where the machine is. -/
structure StRel (X0 : Cx) (L : List Nat) (nt : Nat) (st : St) (a : Act) (X : Cx) : Prop where
  ok : X.Ok
  trans : Trans X0 X
  hH : X.H = st.H
  slots : SRel X L st.tm a.tmps
  size : nt ≤ a.tmps.size
  b : st.b = X0.E.length
  ref : RefL st.b X0.H st.H
  defs : DefOk X0 a.defers X

theorem Cx.Ok.notDeferred {X : Cx} (h : X.Ok) {r : Nat} {d : Option (List Deferred)} (hd : X.w.heap[r]? = some (.deferred d)) : ¬ X.holds r := by
  rintro ⟨k, e, he, hb⟩
  obtain ⟨h', _, hr⟩ := h.hent he
  cases h' <;> cases e <;> simp only [EntRel] at hr
  · simp only [EC.blk, Option.some.injEq] at hb
    obtain ⟨_, arr, T, h1, _⟩ := hr
    rw [hb, hd] at h1
    cases h1
  · obtain ⟨_, _, ⟨a, rfl, _⟩ | ⟨b', cap, arr, T, rfl, _, h1, _⟩⟩ := hr
    · cases a <;> simp [EC.blk] at hb
    · simp only [EC.blk, Option.some.injEq] at hb
      rw [hb, hd] at h1
      cases h1
  · simp only [EC.blk, Option.some.injEq] at hb
    rw [hb, hd] at hr
    exact absurd hr.2 (by simp)
  · simp [EC.blk] at hb

theorem DefOk.trans {X0 X X' : Cx} {ds : List Deferred} (h : DefOk X0 ds X) (t : Trans X X') (hX : X.Ok) : DefOk X0 ds X' := by
  obtain ⟨rs, h1, h2, h3⟩ := h
  refine ⟨rs, h1, h2, fun r hr => ?_⟩
  obtain ⟨h4, h5⟩ := h3 r hr
  refine ⟨h4, ?_⟩
  rw [t.same r (Array.getElem?_eq_some_iff.1 h5).1 (hX.notDeferred h5)]
  exact h5

theorem put_defers (a : Act) (dst : Option Nat) (v : Value) : (a.put dst v).defers = a.defers := by cases dst <;> rfl
theorem put_size (a : Act) (dst : Option Nat) (v : Value) : (a.put dst v).tmps.size = a.tmps.size := by cases dst <;> simp [Act.put]

section
variable {P : Program} {E : Env} {C : CF} {Y : List YF} {L : List Nat} {F : Fence} {nt : Nat} {X0 : Cx}

theorem yielded_of {ops : List AOp} {j g : Nat} {o : AOp} (hj : ops[j]? = some o) (hd : o.o.dst = some g) {tm : Slots} {a : Act} {X : Cx} (hS : SRel X L tm a.tmps) {t : Bool} (ht : tm.get g = .sc (.bool t)) :
    yielded (ops.map (·.o)).toArray a.tmps j = some t := by
  have h1 := hS g
  rw [ht] at h1
  have h2 := h1.sc_inv
  unfold yielded
  simp only [List.getElem?_toArray, List.getElem?_map, hj, Option.map_some, Option.bind_some, hd]
  rw [Array.getD_eq_getD_getElem?] at h2
  cases hg : a.tmps[g]? with
  | none => rw [hg] at h2; simp [undef] at h2
  | some v => rw [hg] at h2; simp at h2; simp [h2]

theorem yielded_no {ops : List AOp} {j g : Nat} {o : AOp} (hj : ops[j]? = some o) (hd : o.o.dst = some g) {tm : Slots} {a : Act} {X : Cx} (hS : SRel X L tm a.tmps) {vs : Array Value} (ht : tm.get g = .sc (.tuple vs)) :
    yielded (ops.map (·.o)).toArray a.tmps j = none := by
  have h1 := hS g
  rw [ht] at h1
  have h2 := h1.sc_inv
  unfold yielded
  simp only [List.getElem?_toArray, List.getElem?_map, hj, Option.map_some, Option.bind_some, hd]
  rw [Array.getD_eq_getD_getElem?] at h2
  cases hg : a.tmps[g]? with
  | none => simp
  | some v => rw [hg] at h2; simp at h2; simp [h2]

/-- Whether it is done. -/
theorem wanted_of {ops : List AOp} {ao : AOp} (hf : ao.fine nt ops = true) {tm : Slots} {a : Act} {X : Cx} (hS : SRel X L tm a.tmps) :
    (ao.g = none → Region.wanted ao.o (yielded (ops.map (·.o)).toArray a.tmps) = true) ∧
    (∀ g w t, ao.g = some (g, w) → tm.get g = .sc (.bool t) → Region.wanted ao.o (yielded (ops.map (·.o)).toArray a.tmps) = (t == w)) ∧
    (∀ g w vs, ao.g = some (g, w) → tm.get g = .sc (.tuple vs) → Region.wanted ao.o (yielded (ops.map (·.o)).toArray a.tmps) = false) := by
  unfold AOp.fine at hf
  simp only [Bool.and_eq_true] at hf
  obtain ⟨_, h⟩ := hf
  refine ⟨fun hg => ?_, fun g w t hg ht => ?_, fun g w vs hg ht => ?_⟩
  · cases hgu : ao.o.guard with
    | none => simp [Region.wanted, hgu]
    | some p => obtain ⟨j, w⟩ := p; simp [hgu, hg] at h
  · cases hgu : ao.o.guard with
    | none => simp [hgu, hg] at h
    | some p =>
      obtain ⟨j, w'⟩ := p
      simp only [hgu, hg, Bool.and_eq_true, beq_iff_eq] at h
      obtain ⟨rfl, h⟩ := h
      split at h
      · rename_i o hj
        split at h
        · rename_i d hd
          have := Nat.eq_of_beq_eq_true h
          subst this
          simp only [Region.wanted, hgu, yielded_of hj hd hS ht]
          cases t <;> cases w' <;> rfl
        · cases h
      · cases h
  · cases hgu : ao.o.guard with
    | none => simp [hgu, hg] at h
    | some p =>
      obtain ⟨j, w'⟩ := p
      simp only [hgu, hg, Bool.and_eq_true, beq_iff_eq] at h
      obtain ⟨rfl, h⟩ := h
      split at h
      · rename_i o hj
        split at h
        · rename_i d hd
          have := Nat.eq_of_beq_eq_true h
          subst this
          simp only [Region.wanted, hgu, yielded_no hj hd hS ht]
          rfl
        · cases h
      · cases h

theorem dst_lt {ops : List AOp} {ao : AOp} (hf : ao.fine nt ops = true) {d : Nat} (hd : ao.o.dst = some d) : d < nt := by
  unfold AOp.fine at hf
  simp only [hd, Bool.and_eq_true, decide_eq_true_eq] at hf
  exact hf.1

/-- An operation of a region that is done. -/
theorem opIn_do (hT : TOk P E.T) (hC : CSound P E.G C) (hF : WF F) {X : Cx} (hX : X.Ok) (hG : GOk E.G X) (hY : YSound P X L Y) {ops : List AOp} {i : Nat} {ao : AOp} (hi : ops[i]? = some ao)
    {tm : Slots} {a : Act} (hS : SRel X L tm a.tmps) {b : Nat} {r : OR} (hw : Region.wanted ao.o (yielded (ops.map (·.o)).toArray a.tmps) = true)
    (h : aop E C Y ao b tm X.H = some r) {K : Act → World → Prop} {Q : Exit → Act → World → Prop} (hg : Goals X L a ao.o.dst r K Q) : wpOpIn F 0 P (ops.map (·.o)).toArray Q i K a X.w := by
  unfold wpOpIn
  simp only [List.getElem?_toArray, List.getElem?_map, hi, Option.map_some]
  rw [if_pos hw]
  exact aop_sound hT hC hF hX hG hY hS h hg

/-- An operation of a region that is not done. -/
theorem opIn_not (hF : WF F) {ops : List AOp} {i : Nat} {ao : AOp} (hi : ops[i]? = some ao)
    {a : Act} {w : World} (hw : Region.wanted ao.o (yielded (ops.map (·.o)).toArray a.tmps) = false)
    {K : Act → World → Prop} {Q : Exit → Act → World → Prop} (hg : K (a.put ao.o.dst undef) w) : wpOpIn F 0 P (ops.map (·.o)).toArray Q i K a w := by
  unfold wpOpIn
  simp only [List.getElem?_toArray, List.getElem?_map, hi, Option.map_some]
  rw [if_neg (by rw [hw]; simp)]
  exact ⟨fun f _ => hF.fn f, hg⟩

/-- What must be shown of the way on. -/
def Onward (L : List Nat) (S : St → Act → Cx → Prop) (ex : Ex) (st' : St) (Q : Exit → Act → World → Prop) : Prop :=
  match ex with
  | .normal => ∀ a' X', S st' a' X' → Q .normal a' X'.w
  | .exit id => ∀ a' X', S st' a' X' → Q (.exit id) a' X'.w
  | .ret => ∀ a' X', S st' a' X' → Q .ret a' X'.w
  | .pan v => ∀ a' X' cv, S st' a' X' → VRel X' L v cv → Q (.panic [{ v := cv, recovered := false }]) a' X'.w

/-- What is given around. -/
structure Base (P : Program) (E : Env) (C : CF) (Y : List YF) (L : List Nat) (F : Fence) (X0 : Cx) : Prop where
  tok : TOk P E.T
  cs : CSound P E.G C
  cr : CRef C
  wf : WF F
  ok0 : X0.Ok
  gok : GOk E.G X0
  ys : YSound P X0 L Y
  rd : ∀ l, F.round = some l → ∃ (k : Nat) (r : Loop) (s : LoopState) (p : Option Jmp), X0.E[k]? = some (.loop l r) ∧ X0.H[k]? = some (.loop s p)


theorem StRel.lenB (B : Base P E C Y L F X0) {st : St} {a : Act} {X : Cx} (h : StRel X0 L nt st a X) : st.b ≤ st.H.length := by
  rw [h.b, ← h.hH, ← h.ok.len]
  exact h.trans.lenE B.ok0

/-- After an operation. -/
theorem StRel.next (B : Base P E C Y L F X0) {st : St} {a : Act} {X X' : Cx} (h : StRel X0 L nt st a X) (hok : X'.Ok) (t : Trans X X') {tm' : Slots} {H' : List Ent} (hH : X'.H = H')
    (href : RefL st.b st.H H') {a' : Act} (hS : SRel X' L tm' a'.tmps) (hs : a'.tmps.size = a.tmps.size) (hd : a'.defers = a.defers) : StRel X0 L nt { st with tm := tm', H := H' } a' X' where
  ok := hok
  trans := h.trans.trans t
  hH := hH
  slots := hS
  size := by rw [hs]; exact h.size
  b := h.b
  ref := h.ref.trans href
  defs := hd ▸ h.defs.trans t h.ok

theorem stepOp_sound (B : Base P E C Y L F X0) {ops : List AOp} {i : Nat} {ao : AOp} (hi : ops[i]? = some ao) (hf : ao.fine nt ops = true) {st st' : St} {ex : Ex} {a : Act} {X : Cx} (hS : StRel X0 L nt st a X)
    (h : stepOp E C Y ao st = some (ex, st')) {K : Act → World → Prop} {Q : Exit → Act → World → Prop} (hn : ex = .normal → ∀ a' X', StRel X0 L nt st' a' X' → K a' X'.w)
    (hp : ∀ v, ex = .pan v → ∀ a' X' cv, StRel X0 L nt st' a' X' → VRel X' L v cv → Q (.panic [{ v := cv, recovered := false }]) a' X'.w) :
    wpOpIn F 0 P (ops.map (·.o)).toArray Q i K a X.w := by
  have hw := wanted_of hf hS.slots
  have hG := B.gok.trans hS.trans B.ok0
  have hY := B.ys.later hS.trans
  have go : Region.wanted ao.o (yielded (ops.map (·.o)).toArray a.tmps) = true → (match aop E C Y ao st.b st.tm st.H with
        | some (.val v H) => some (Ex.normal, { st with tm := setDst ao.o.dst v st.tm, H := H })
        | some (.pan v H) => some (Ex.pan v, { st with H := H })
        | none => none) = some (ex, st') → wpOpIn F 0 P (ops.map (·.o)).toArray Q i K a X.w := by
    intro hwt h
    cases ha : aop E C Y ao st.b st.tm st.H with
    | none => simp [ha] at h
    | some r =>
      have hr := aop_ref (b := st.b) B.cr B.ys.2.1 (hS.lenB B) ha
      refine opIn_do B.tok B.cs B.wf hS.ok hG hY hi hS.slots hwt (b := st.b) (r := r) (by rw [hS.hH]; exact ha) ⟨fun v H' e X' cv hok t hH hv => ?_, fun v H' e X' cv hok t hH hv => ?_⟩
      · subst e
        rw [ha] at h
        cases h
        refine hn rfl _ X' (hS.next B hok t hH hr (SRel.put (hS.slots.trans t hS.ok) (fun d hd => ?_) hv) (put_size _ _ _) (put_defers _ _ _))
        exact Nat.lt_of_lt_of_le (dst_lt hf hd) hS.size
      · subst e
        rw [ha] at h
        cases h
        exact hp v rfl _ X' cv (hS.next B hok t hH hr (hS.slots.trans t hS.ok) rfl rfl) hv
  unfold stepOp at h
  split at h
  · rename_i hg
    exact go (hw.1 hg) h
  · rename_i g w hg
    split at h
    · rename_i t ht
      have hwt := hw.2.1 g w t hg ht
      split at h
      · rename_i htw
        exact go (by rw [hwt, htw]; simp) h
      · rename_i htw
        cases h
        refine opIn_not B.wf hi (by rw [hwt]; simpa using htw) (hn rfl _ X (hS.next B hS.ok (Trans.refl hS.ok) hS.hH (.refl _ _) (SRel.put hS.slots (fun d hd => ?_) (.frz (.sc _))) (put_size _ _ _) (put_defers _ _ _)))
        exact Nat.lt_of_lt_of_le (dst_lt hf hd) hS.size
    · rename_i vs ht
      cases h
      refine opIn_not B.wf hi (hw.2.2 g w vs hg ht) (hn rfl _ X (hS.next B hS.ok (Trans.refl hS.ok) hS.hH (.refl _ _) (SRel.put hS.slots (fun d hd => ?_) (.frz (.sc _))) (put_size _ _ _) (put_defers _ _ _)))
      exact Nat.lt_of_lt_of_le (dst_lt hf hd) hS.size
    · cases h

theorem runOps_sound (B : Base P E C Y L F X0) {ops : List AOp} (hf : ∀ ao ∈ ops, ao.fine nt ops = true) {Q : Exit → Act → World → Prop} : ∀ (aas : List AOp) (i : Nat), ops.drop i = aas → ∀ {st st' : St} {ex : Ex} {a : Act} {X : Cx},
    StRel X0 L nt st a X → runOps E C Y aas st = some (ex, st') → Onward L (StRel X0 L nt) ex st' Q → (∀ v, ex ≠ .exit v) → ex ≠ .ret → wpOpsIn F 0 P (ops.map (·.o)).toArray Q (List.range' i aas.length) a X.w
  | [], i, hd, st, st', ex, a, X, hS, h, hon, _, _ => by
    cases h
    exact hon a X hS
  | ao :: aas, i, hd, st, st', ex, a, X, hS, h, hon, he, hr => by
    have hi : ops[i]? = some ao := by
      have : (ops.drop i)[0]? = some ao := by rw [hd]; rfl
      simpa using this
    rw [List.length_cons, List.range'_succ, wpOpsIn_cons]
    simp only [runOps] at h
    have hm := List.mem_of_getElem? hi
    split at h
    · rename_i st1 h1
      refine stepOp_sound B hi (hf ao hm) hS h1 (fun _ a' X' hS' => ?_) (fun v hv => by cases hv)
      refine runOps_sound B hf aas (i + 1) ?_ hS' h hon he hr
      rw [← List.drop_drop, hd]
      rfl
    · refine stepOp_sound B hi (hf ao hm) hS h (fun hn => ?_) (fun v hv a' X' cv hS' hv' => ?_)
      · rename_i hnot
        subst hn
        exact absurd h (hnot st')
      · subst hv
        exact hon a' X' cv hS' hv'

theorem stepOp_ex {a : AOp} {st st' : St} {ex : Ex} (h : stepOp E C Y a st = some (ex, st')) : (∀ v, ex ≠ .exit v) ∧ ex ≠ .ret := by
  unfold stepOp at h
  split at h
  · split at h <;> cases h <;> simp
  · split at h
    · split at h
      · split at h <;> cases h <;> simp
      · cases h; simp
    · cases h; simp
    · cases h

theorem runOps_ex : ∀ {aas : List AOp} {st st' : St} {ex : Ex}, runOps E C Y aas st = some (ex, st') → (∀ v, ex ≠ .exit v) ∧ ex ≠ .ret
  | [], st, st', ex, h => by cases h; simp
  | a :: aas, st, st', ex, h => by
    simp only [runOps] at h
    split at h
    · exact runOps_ex h
    · exact stepOp_ex h

/-- A region whose order is fixed. -/
theorem region_sound (B : Base P E C Y L F X0) {ops : List AOp} (hf : ∀ ao ∈ ops, ao.fine nt ops = true) {id : Nat} {st st' : St} {ex : Ex} {a : Act} {X : Cx} {Q : Exit → Act → World → Prop}
    (hS : StRel X0 L nt st a X) (h : runOps E C Y ops st = some (ex, st')) (hon : Onward L (StRel X0 L nt) ex st' Q) : (Code.region id (ops.map (·.o)).toArray false).wpIn F 0 P Q a X.w := by
  refine wpIn_region ?_
  have := runOps_sound B hf ops 0 rfl hS h hon (runOps_ex h).1 (runOps_ex h).2
  rw [List.size_toArray, List.length_map, List.range_eq_range']
  exact this

end
end Go.Abs

/- Regions that draw the order of their operations: any order comes to the same. -/
namespace Go.Abs

/-- What an operation has to do with the entities. -/
inductive Tch where
  | no | read | write
  deriving DecidableEq

def AOp.tch (a : AOp) : Tch :=
  match a.o.op with
  | .move _ | .assign _ | .pick .. | .build .. | .binOp .. | .unOp .. | .convert .. | .makeFunc .. | .field .. | .index .. | .extract .. | .makeInterface .. => .no
  | .buildSlice .. | .makeSlice .. => if a.f == .own then .write else .no
  | .load .. | .fieldAddr .. => if a.f == .own then .no else .read
  | .nilCheck .. | .slice .. | .indexAddr .. => .read
  | .call c => match c.callee with
    | .value (.func _) => match a.f with
      | .non | .cln => .no
      | .lend => .read
      | _ => .write
    | .builtin .min | .builtin .max => .no
    | .builtin .len => .read
    | _ => .write
  | _ => .write

def opTmp : Operand → Option Nat
  | .tmp t => some t
  | _ => none

/-- The slots that an operation looks at. -/
def AOp.reads (a : AOp) : List Nat := a.o.op.operands.toList.filterMap opTmp ++ (match a.g with
  | some (g, _) => [g]
  | none => [])

def AOp.writes (a : AOp) (t : Nat) : Bool := match a.o.dst with
  | some d => Nat.beq d t
  | none => false

/-- The order of these matters. -/
def clash (a b : AOp) : Bool :=
  a.reads.any b.writes || b.reads.any a.writes || (match a.o.dst with
    | some d => b.writes d
    | none => false) || (match a.tch, b.tch with
    | .write, .write | .write, .read | .read, .write => true
    | _, _ => false)

def maskOf (a : AOp) (acc : List Nat) : Nat := a.o.after.toList.foldl (fun s e => if Region.binds .any e then (s ||| 2 ^ e.on) ||| (acc[e.on]?).getD 0 else s) 0
def befores : List AOp → List Nat → List Nat
  | [], acc => acc
  | a :: aas, acc => befores aas (acc ++ [maskOf a acc])

/-- Operations whose order matters come in one order alone. -/
def drawOk (ops : List AOp) : Bool :=
  let bs := befores ops []
  (List.range ops.length).all fun j => match ops[j]?, bs[j]? with
    | some b, some m => b.o.after.toList.all (fun e => !Region.binds .any e || decide (e.on < j)) && (List.range j).all fun i => match ops[i]? with
      | some a => !clash a b || m.testBit i
      | none => false
    | _, _ => false

def Closed (ops : List AOp) (S : Nat → Prop) : Prop := ∀ k o, ops[k]? = some o → S k → ∀ e ∈ o.o.after.toList, Region.binds .any e = true → S e.on

theorem maskOf_spec {ops : List AOp} {S : Nat → Prop} (hS : Closed ops S) {a : AOp} {acc : List Nat} (hacc : ∀ (k m : Nat) (o : AOp), acc[k]? = some m → ops[k]? = some o → (∀ e ∈ o.o.after.toList, Region.binds .any e = true → S e.on) → ∀ i, m.testBit i = true → S i)
    (hl : acc.length ≤ ops.length) (ha : ∀ e ∈ a.o.after.toList, Region.binds .any e = true → S e.on) : ∀ i, (maskOf a acc).testBit i = true → S i := by
  unfold maskOf
  have gen : ∀ (es : List Edge) (s : Nat), (∀ e ∈ es, Region.binds .any e = true → S e.on) → (∀ i, s.testBit i = true → S i) →
      ∀ i, (es.foldl (fun s e => if Region.binds .any e then (s ||| 2 ^ e.on) ||| (acc[e.on]?).getD 0 else s) s).testBit i = true → S i := by
    intro es
    induction es with
    | nil => exact fun s _ hs => hs
    | cons e es ih =>
      intro s he hs
      refine ih _ (fun e' h' => he e' (List.mem_cons_of_mem _ h')) ?_
      show ∀ i, (if Region.binds .any e then (s ||| 2 ^ e.on) ||| (acc[e.on]?).getD 0 else s).testBit i = true → S i
      split
      · rename_i hb
        have hon := he e (List.mem_cons_self ..) hb
        intro i hi
        simp only [Nat.testBit_or, Bool.or_eq_true] at hi
        rcases hi with (hi | hi) | hi
        · exact hs i hi
        · rw [Nat.testBit_two_pow] at hi
          simp at hi
          exact hi ▸ hon
        · cases hm : acc[e.on]? with
          | none => simp [hm] at hi
          | some m =>
            simp only [hm, Option.getD_some] at hi
            have hlt := (List.getElem?_eq_some_iff.1 hm).1
            have ho : ops[e.on]? = some (ops[e.on]'(by omega)) := List.getElem?_eq_getElem _
            exact hacc e.on m _ hm ho (hS e.on _ ho hon) i hi
      · exact hs
  exact gen _ 0 ha (fun i h => by simp at h)

theorem befores_spec {ops : List AOp} {S : Nat → Prop} (hS : Closed ops S) : ∀ (aas : List AOp) (acc : List Nat), ops.drop acc.length = aas → acc.length ≤ ops.length →
    (∀ (k m : Nat) (o : AOp), acc[k]? = some m → ops[k]? = some o → (∀ e ∈ o.o.after.toList, Region.binds .any e = true → S e.on) → ∀ i, m.testBit i = true → S i) →
    ∀ (k m : Nat) (o : AOp), (befores aas acc)[k]? = some m → ops[k]? = some o → (∀ e ∈ o.o.after.toList, Region.binds .any e = true → S e.on) → ∀ i, m.testBit i = true → S i
  | [], acc, _, _, hacc => hacc
  | a :: aas, acc, hd, hl, hacc => by
    have hi : ops[acc.length]? = some a := by
      have : (ops.drop acc.length)[0]? = some a := by rw [hd]; rfl
      simpa using this
    have hlt := (List.getElem?_eq_some_iff.1 hi).1
    refine befores_spec hS aas (acc ++ [maskOf a acc]) ?_ (by simp; omega) ?_
    · rw [List.length_append, ← List.drop_drop, hd]; rfl
    · intro k m o hk ho he
      rcases getElem?_push hk with hk | ⟨rfl, rfl⟩
      · exact hacc k m o hk ho he
      · rw [hi] at ho
        cases ho
        exact maskOf_spec hS hacc hl he

theorem drawOk_spec {ops : List AOp} (h : drawOk ops = true) {S : Nat → Prop} (hS : Closed ops S) {i j : Nat} {a b : AOp} (hij : i < j) (hi : ops[i]? = some a) (hj : ops[j]? = some b) (hc : clash a b = true)
    (he : ∀ e ∈ b.o.after.toList, Region.binds .any e = true → S e.on) : S i := by
  unfold drawOk at h
  rw [List.all_eq_true] at h
  have h1 := h j (List.mem_range.2 (List.getElem?_eq_some_iff.1 hj).1)
  simp only [hj] at h1
  split at h1
  · rename_i b' m hb hm
    cases hb
    simp only [Bool.and_eq_true] at h1
    have h2 := List.all_eq_true.1 h1.2 i (List.mem_range.2 hij)
    simp only [hi, hc, Bool.not_true, Bool.false_or] at h2
    exact befores_spec hS ops [] rfl (Nat.zero_le _) (fun k m o hk => by simp at hk) j m b hm hj he i h2
  · cases h1

theorem drawOk_edge {ops : List AOp} (h : drawOk ops = true) {j : Nat} {b : AOp} (hj : ops[j]? = some b) : ∀ e ∈ b.o.after.toList, Region.binds .any e = true → e.on < j := by
  unfold drawOk at h
  rw [List.all_eq_true] at h
  have h1 := h j (List.mem_range.2 (List.getElem?_eq_some_iff.1 hj).1)
  simp only [hj] at h1
  split at h1
  · rename_i b' m hb hm
    cases hb
    simp only [Bool.and_eq_true] at h1
    intro e he hb
    have h2 := List.all_eq_true.1 h1.1 e he
    simpa [hb] using h2
  · cases h1

section
variable {P : Program} {E : Env} {C : CF} {Y : List YF} {L : List Nat} {F : Fence} {nt : Nat} {X0 : Cx}

/-- An operation asks for its operands alone. -/
theorem aopW_congr {ρ ρ' : Operand → AV} {a : AOp} (h : ∀ x ∈ a.o.op.operands, ρ x = ρ' x) (b : Nat) (H : List Ent) : aopW E C Y ρ a b H = aopW E C Y ρ' a b H := by
  unfold aopW
  cases hop : a.o.op <;> rw [hop] at h <;> simp only [Op.operands] at h <;> try rfl
  case build t ps =>
    have : (ps.toList.map fun p => (p.1, ρ p.2)) = ps.toList.map fun p => (p.1, ρ' p.2) := List.map_congr_left fun p hp => by rw [h p.2 (by simpa using ⟨p.1, by simpa using hp⟩)]
    simp only [this]
  case buildSlice t n ps =>
    have : (ps.toList.map fun p => (p.1, ρ p.2)) = ps.toList.map fun p => (p.1, ρ' p.2) := List.map_congr_left fun p hp => by rw [h p.2 (by simpa using ⟨p.1, by simpa using hp⟩)]
    simp only [this]
  case makeFunc fn first caps =>
    have : caps.toList.map ρ = caps.toList.map ρ' := List.map_congr_left fun p hp => h p (by simp at hp; simp [hp])
    simp only [this]
  case slice t x l hi m =>
    have h1 : ρ x = ρ' x := h x (by simp)
    have h2 : l.map ρ = l.map ρ' := by cases l with
      | none => rfl
      | some y => simp [h y (by simp)]
    have h3 : hi.map ρ = hi.map ρ' := by cases hi with
      | none => rfl
      | some y => simp [h y (by simp)]
    have h4 : m.map ρ = m.map ρ' := by cases m with
      | none => rfl
      | some y => simp [h y (by simp)]
    simp only [h1, h2, h3, h4]
  case call c =>
    have ha : c.args.toList.map ρ = c.args.toList.map ρ' := List.map_congr_left fun p hp => h p (by simp only [Array.mem_toList_iff] at hp; unfold Call.operands; split <;> simp [hp])
    cases hc : c.callee with
    | value f =>
      have hf : ρ f = ρ' f := h f (by unfold Call.operands; simp [hc])
      simp only [ha, hc, hf]
    | builtin bi => simp only [ha, hc]
    | invoke _ _ => simp only [hc]
  all_goals first
    | (rename_i x y z; simp only [h x (by simp), h y (by simp), h z (by simp)])
    | (rename_i x y; simp only [h x (by simp), h y (by simp)])
    | (rename_i x y _; simp only [h x (by simp), h y (by simp)])
    | (rename_i x; simp only [h x (by simp)])
    | (rename_i x _; simp only [h x (by simp)])

/-- What has to do with no entity goes the same way whatever they are. -/
theorem aopW_no {ρ : Operand → AV} (hρ : ∀ g, ρ (.func g) = .fn g []) {a : AOp} (ht : a.tch = .no) {b : Nat} {H : List Ent} {v : AV} {H1 : List Ent} (h : aopW E C Y ρ a b H = some (.val v H1)) : H1 = H ∧ ∀ H', aopW E C Y ρ a b H' = some (.val v H') := by
  have okc : ∀ {q : Option AV}, Go.Abs.ok H q = some (.val v H1) → H1 = H ∧ ∀ H', Go.Abs.ok H' q = some (.val v H') := by
    intro q hq
    cases q with
    | none => simp [Go.Abs.ok] at hq
    | some q' => simp only [Go.Abs.ok, Option.some.injEq, OR.val.injEq] at hq; exact ⟨hq.2.symm, fun H' => by simp [Go.Abs.ok, hq.1]⟩
  unfold AOp.tch at ht
  unfold aopW at h ⊢
  cases hop : a.o.op <;> simp only [hop] at h ht ⊢ <;> try (cases ht; done)
  case move => cases h; exact ⟨rfl, fun _ => rfl⟩
  case assign => cases h; exact ⟨rfl, fun _ => rfl⟩
  case pick =>
    split at h
    · cases h; exact ⟨rfl, fun _ => rfl⟩
    · cases h
  case build => exact okc h
  case buildSlice =>
    split at ht
    · cases ht
    · rename_i hown
      split at h
      · cases h
      · split at h
        · cases h
        · rw [if_neg hown] at h
          cases h
          exact ⟨rfl, fun _ => by simp [hown]⟩
  case binOp => exact okc h
  case unOp => exact okc h
  case convert => exact okc h
  case makeInterface =>
    split at h
    · rename_i hi; cases h; exact ⟨rfl, fun _ => by simp [hi]⟩
    · cases h
  case makeFunc =>
    split at h
    · split at h
      · rename_i hi; cases h; exact ⟨rfl, fun _ => by simp [hi]⟩
      · cases h
    · cases h
  case makeSlice t l c =>
    split at ht
    · cases ht
    · rename_i hown
      have hown : (a.f == Fl.own) = false := by simpa using hown
      rw [hown] at h ⊢
      unfold aMake at h ⊢
      split at h
      · split at h
        · rename_i hc
          simp only [Bool.false_eq_true, if_false] at h ⊢
          split at h
          · rename_i hlc
            cases h
            exact ⟨rfl, fun _ => by simp only [if_pos hc, if_pos hlc, okH]⟩
          · simp [okH] at h
        · simp [okH] at h
      · simp [okH] at h
  case field => exact okc h
  case index => exact okc h
  case load t x =>
    split at ht
    · rename_i hf
      split at h
      · cases h
      · rename_i hn
        obtain ⟨cs, hx⟩ : ∃ cs, ρ x = .fp cs := by
          cases hx : ρ x <;> simp [AV.isFp, hx, hf] at hn
          exact ⟨_, rfl⟩
        rw [hx] at h hn ⊢
        obtain ⟨h1, h2⟩ := okc h
        exact ⟨h1, fun H' => by rw [if_neg hn]; exact h2 H'⟩
    · cases ht
  case fieldAddr t x k =>
    split at ht
    · rename_i hf
      split at h
      · cases h
      · rename_i hn
        obtain ⟨cs, hx⟩ : ∃ cs, ρ x = .fp cs := by
          cases hx : ρ x <;> simp [AV.isFp, hx, hf] at hn
          exact ⟨_, rfl⟩
        rw [hx] at h hn ⊢
        obtain ⟨h1, h2⟩ := okc h
        exact ⟨h1, fun H' => by rw [if_neg hn]; exact h2 H'⟩
    · cases ht
  case extract =>
    split at h
    · exact okc h
    · cases h
  case call c =>
    cases hc : c.callee with
    | value f =>
      simp only [hc] at h ht ⊢
      cases f with
      | func g =>
        simp only at ht
        split at ht
        · rename_i hf
          simp only [hρ, hf, aCallFn] at h ⊢
          split at h
          · rename_i hpp
            split at h
            · split at h
              · rename_i hcall _ hv
                cases h
                exact ⟨rfl, fun _ => by simp only [if_pos hpp, hv]⟩
              · cases h
            · split at h
              · cases h
              · cases h
            · cases h
          · cases h
        · rename_i hf
          simp only [hρ, hf, aCallFn] at h ⊢
          split at h
          · rename_i hpp
            simp only [if_pos hpp]
            split at h
            · split at h
              · rename_i hb
                cases h
                exact ⟨rfl, fun _ => by rw [if_pos hb]⟩
              · cases h
            · rename_i hne
              have hb : ∀ {aas H v H1}, bareCall C g aas H = some (.val v H1) → H1 = H ∧ ∀ H', bareCall C g aas H' = some (.val v H') := by
                intro aas H v H1 h
                unfold bareCall at h
                split at h
                · rename_i hcall
                  split at h
                  · rename_i hv
                    cases h
                    exact ⟨rfl, fun _ => by unfold bareCall; simp only [hcall, hv]⟩
                  · cases h
                · split at h <;> cases h
                · cases h
              exact hb h
          · cases h
        · cases ht
        · cases ht
      | tmp t => cases ht
      | const v => cases ht
      | global g => cases ht
    | builtin bi =>
      simp only [hc] at h ht ⊢
      cases bi <;> simp only at ht <;> try (cases ht; done)
      all_goals
        generalize c.args.toList.map ρ = l at h ⊢
        rcases l with _ | ⟨x, _ | ⟨y, _ | ⟨z, l⟩⟩⟩ <;> simp only [aBuiltin] at h ⊢ <;> first | exact okc h | cases h
    | invoke _ _ => simp only [hc] at ht; cases ht

/-- What only looks at the entities leaves them. -/
theorem aopW_read {ρ : Operand → AV} (hρ : ∀ g, ρ (.func g) = .fn g []) {a : AOp} (ht : a.tch = .read) {b : Nat} {H : List Ent} {r : OR} (h : aopW E C Y ρ a b H = some r) : r.ents = H := by
  unfold AOp.tch at ht
  unfold aopW at h
  cases hop : a.o.op <;> simp only [hop] at h ht <;> try (cases ht; done)
  case load =>
    split at h
    · cases h
    · exact ok_ents h
  case nilCheck =>
    split at h
    · cases h; rfl
    · cases h
  case slice => exact ok_ents h
  case fieldAddr =>
    split at h
    · cases h
    · exact ok_ents h
  case indexAddr => exact ok_ents h
  case buildSlice => split at ht <;> cases ht
  case makeSlice => split at ht <;> cases ht
  case call c =>
    cases hc : c.callee with
    | value f =>
      simp only [hc] at h ht
      cases f with
      | func g =>
        simp only at ht
        split at ht
        · cases ht
        · cases ht
        · rename_i hf
          simp only [hρ, hf, aCallFn] at h
          split at h
          · cases h
          · split at h
            · split at h
              · split at h
                · cases h; rfl
                · cases h
              · cases h
            · cases h
        · cases ht
      | tmp t => cases ht
      | const v => cases ht
      | global g => cases ht
    | builtin bi =>
      simp only [hc] at h ht
      cases bi <;> simp only at ht <;> try (cases ht; done)
      generalize c.args.toList.map ρ = l at h
      rcases l with _ | ⟨x, _ | ⟨y, l⟩⟩ <;> simp only [aBuiltin] at h
      · cases h
      · split at h
        · exact ok_ents h
        · cases h
      · cases h
    | invoke _ _ => simp only [hc] at ht; cases ht

/-- The way through the operations, as they stand. -/
theorem runOps_way : ∀ {aas : List AOp} {st st' : St}, runOps E C Y aas st = some (.normal, st') → ∃ tr : Nat → St, tr 0 = st ∧ tr aas.length = st' ∧ ∀ i ao, aas[i]? = some ao → stepOp E C Y ao (tr i) = some (.normal, tr (i + 1))
  | [], st, st', h => by cases h; exact ⟨fun _ => st, rfl, rfl, fun i ao h => by simp at h⟩
  | a :: aas, st, st', h => by
    simp only [runOps] at h
    split at h
    · rename_i st1 h1
      obtain ⟨tr, h2, h3, h4⟩ := runOps_way h
      refine ⟨fun i => if i = 0 then st else tr (i - 1), rfl, by simpa using h3, fun i ao hi => ?_⟩
      cases i with
      | zero =>
        simp at hi
        subst hi
        simpa [h2] using h1
      | succ i => simpa using h4 i ao (by simpa using hi)
    · rename_i hnot
      exact absurd h (hnot st')

def AOp.guarded (a : AOp) (tm : Slots) : Prop := a.g = none ∨ ∃ g w, a.g = some (g, w) ∧ tm.get g = .sc (.bool w)

/-- A guard's value by which an operation is passed over. -/
def skips : Value → Bool → Prop
  | .bool t, w => t ≠ w
  | .tuple _, _ => True
  | _, _ => False

theorem stepOp_cases {a : AOp} {st st' : St} (h : stepOp E C Y a st = some (.normal, st')) :
    (a.guarded st.tm ∧ ∃ v, aop E C Y a st.b st.tm st.H = some (.val v st'.H) ∧ st' = { st with tm := setDst a.o.dst v st.tm, H := st'.H }) ∨
    (∃ g w u, a.g = some (g, w) ∧ st.tm.get g = .sc u ∧ skips u w ∧ st' = { st with tm := setDst a.o.dst (.sc undef) st.tm }) := by
  have go : (match aop E C Y a st.b st.tm st.H with
        | some (.val v H) => some (Ex.normal, { st with tm := setDst a.o.dst v st.tm, H := H })
        | some (.pan v H) => some (Ex.pan v, { st with H := H })
        | none => none) = some (.normal, st') → ∃ v, aop E C Y a st.b st.tm st.H = some (.val v st'.H) ∧ st' = { st with tm := setDst a.o.dst v st.tm, H := st'.H } := by
    intro h
    split at h
    · rename_i v H ha
      cases h
      exact ⟨v, ha, rfl⟩
    · cases h
    · cases h
  unfold stepOp at h
  split at h
  · rename_i hg
    exact .inl ⟨.inl hg, go h⟩
  · rename_i g w hg
    split at h
    · rename_i t ht
      split at h
      · rename_i htw
        exact .inl ⟨.inr ⟨g, w, hg, htw ▸ ht⟩, go h⟩
      · rename_i htw
        cases h
        exact .inr ⟨g, w, .bool t, hg, ht, htw, rfl⟩
    · rename_i vs ht
      cases h
      exact .inr ⟨g, w, .tuple vs, hg, ht, trivial, rfl⟩
    · cases h

theorem setDst_other {a : AOp} {t : Nat} (h : a.writes t = false) (v : AV) (tm : Slots) : (setDst a.o.dst v tm).get t = tm.get t := by
  unfold AOp.writes at h
  cases hd : a.o.dst with
  | none => rfl
  | some d =>
    rw [hd] at h
    simp only [setDst, get_put]
    rw [if_neg (fun e => by subst e; simp at h)]

theorem setDst_this {a : AOp} {t : Nat} (h : a.writes t = true) (v : AV) (tm : Slots) : a.o.dst = some t ∧ (setDst a.o.dst v tm).get t = v := by
  unfold AOp.writes at h
  cases hd : a.o.dst with
  | none => rw [hd] at h; cases h
  | some d =>
    rw [hd] at h
    have := Nat.eq_of_beq_eq_true h
    subst this
    exact ⟨rfl, by simp [setDst, get_put]⟩

theorem stepOp_slot {a : AOp} {st st' : St} (h : stepOp E C Y a st = some (.normal, st')) {t : Nat} (ht : a.writes t = false) : st'.tm.get t = st.tm.get t := by
  rcases stepOp_cases h with ⟨_, v, _, he⟩ | ⟨g, w, t', _, _, _, he⟩ <;> rw [he] <;> exact setDst_other ht _ _

theorem aval_fn (G : Nat → AV) (tm : Slots) : ∀ g, aval G tm (.func g) = .fn g [] := fun _ => rfl

theorem stepOp_ents {a : AOp} {st st' : St} (h : stepOp E C Y a st = some (.normal, st')) (ht : a.tch ≠ .write) : st'.H = st.H := by
  rcases stepOp_cases h with ⟨_, v, ha, _⟩ | ⟨g, w, t', _, _, _, he⟩
  · cases hc : a.tch with
    | no => exact (aopW_no (aval_fn _ _) hc ha).1
    | read => exact aopW_read (aval_fn _ _) hc ha
    | write => exact absurd hc ht
  · rw [he]

/-- The slots that an operation looks at, as they are on the way. -/
def onlyOf (ts : List Nat) (tm : Slots) : Slots := ts.map fun t => (t, tm.get t)
theorem onlyOf_get (tm : Slots) : ∀ (ts : List Nat) (t : Nat), (onlyOf ts tm).get t = tm.get t ∧ t ∈ ts ∨ (onlyOf ts tm).get t = .und
  | [], t => .inr rfl
  | s :: ts, t => by
    by_cases h : s = t
    · subst h
      exact .inl ⟨by simp [onlyOf, Slots.get], by simp⟩
    · rcases onlyOf_get tm ts t with ⟨h1, h2⟩ | h1
      · refine .inl ⟨?_, List.mem_cons_of_mem _ h2⟩
        simp only [onlyOf, List.map_cons, Slots.get, beq_ne h, cond_false]
        exact h1
      · refine .inr ?_
        simp only [onlyOf, List.map_cons, Slots.get, beq_ne h, cond_false]
        exact h1
theorem onlyOf_mem (tm : Slots) : ∀ {ts : List Nat} {t : Nat}, t ∈ ts → (onlyOf ts tm).get t = tm.get t
  | s :: ts, t, h => by
    by_cases hs : s = t
    · subst hs; simp [onlyOf, Slots.get]
    · have h2 : t ∈ ts := by
        rcases List.mem_cons.1 h with h | h
        · exact absurd h.symm hs
        · exact h
      simp only [onlyOf, List.map_cons, Slots.get, beq_ne hs, cond_false]
      exact onlyOf_mem tm h2

theorem aop_only (a : AOp) (b : Nat) (tm : Slots) (H : List Ent) : aop E C Y a b (onlyOf a.reads tm) H = aop E C Y a b tm H := by
  refine aopW_congr (fun x hx => ?_) b H
  cases x with
  | tmp t => exact onlyOf_mem tm (List.mem_append_left _ (List.mem_filterMap.2 ⟨.tmp t, by simpa using hx, rfl⟩))
  | const v => rfl
  | global g => rfl
  | func f => rfl

/-- How many have not come yet. -/
def cnt (listed : Array Bool) : Nat → Nat
  | 0 => 0
  | n + 1 => cnt listed n + if listed.getD n false then 0 else 1

theorem cnt_zero {listed : Array Bool} : ∀ {n : Nat}, cnt listed n = 0 → ∀ j, j < n → listed.getD j false = true
  | n + 1, h, j, hj => by
    simp only [cnt] at h
    by_cases hn : j = n
    · subst hn
      by_cases hl : listed.getD j false = true
      · exact hl
      · rw [if_neg hl] at h; omega
    · have h0 : cnt listed n = 0 := by omega
      exact cnt_zero h0 j (by omega)

theorem cnt_first {listed : Array Bool} : ∀ {n : Nat}, cnt listed n ≠ 0 → ∃ j, j < n ∧ listed.getD j false = false ∧ ∀ i, i < j → listed.getD i false = true
  | 0, h => absurd rfl h
  | n + 1, h => by
    by_cases hz : cnt listed n = 0
    · refine ⟨n, by omega, ?_, fun i hi => cnt_zero hz i hi⟩
      simp only [cnt, hz] at h
      cases hl : listed.getD n false with
      | false => rfl
      | true => rw [if_pos hl] at h; simp at h
    · obtain ⟨j, h1, h2, h3⟩ := cnt_first hz
      exact ⟨j, by omega, h2, h3⟩

theorem getD_set_same {listed : Array Bool} {i : Nat} (h : i < listed.size) : (listed.setIfInBounds i true).getD i false = true := by
  simp [Array.getD_eq_getD_getElem?, h]

theorem cnt_set {listed : Array Bool} {i : Nat} (hi : i < listed.size) (hl : listed.getD i false = false) : ∀ n, cnt listed n = cnt (listed.setIfInBounds i true) n + if i < n then 1 else 0
  | 0 => rfl
  | n + 1 => by
    have ih := cnt_set hi hl n
    simp only [cnt]
    by_cases hn : i = n
    · subst hn
      rw [getD_set_same hi, hl, ih]
      simp
    · rw [getD_set_ne false hn, ih]
      by_cases h1 : i < n
      · have h2 : i < n + 1 := by omega
        simp only [if_pos h1, if_pos h2]; omega
      · have h2 : ¬ i < n + 1 := by omega
        simp only [if_neg h1, if_neg h2]; omega

theorem cnt_replicate (m : Nat) : ∀ n, n ≤ m → cnt (Array.replicate m false) n = n
  | 0, _ => rfl
  | n + 1, h => by
    simp only [cnt, cnt_replicate m n (by omega)]
    simp [Array.getD_eq_getD_getElem?, show n < m from by omega]

/-- The machine stands where all operations of S have come. -/
structure Mid (X0 : Cx) (L : List Nat) (nt : Nat) (ops : List AOp) (tr : Nat → St) (S : Nat → Prop) (a : Act) (X : Cx) : Prop where
  ok : X.Ok
  trans : Trans X0 X
  size : nt ≤ a.tmps.size
  ref : RefL X0.E.length X0.H X.H
  defs : DefOk X0 a.defers X
  slots : ∀ t, ∃ k, k ≤ ops.length ∧ (∀ j o, ops[j]? = some o → o.writes t = true → (j < k ↔ S j)) ∧ VRel X L ((tr k).tm.get t) (a.tmps.getD t undef)
  ents : ∃ k, k ≤ ops.length ∧ (∀ j o, ops[j]? = some o → o.tch = .write → (j < k ↔ S j)) ∧ X.H = (tr k).H

section
variable {ops : List AOp} {tr : Nat → St}

theorem way_slot (hw : ∀ i ao, ops[i]? = some ao → stepOp E C Y ao (tr i) = some (.normal, tr (i + 1))) (t : Nat) : ∀ (d k : Nat), k + d ≤ ops.length → (∀ j o, ops[j]? = some o → o.writes t = true → (j < k ↔ j < k + d)) → (tr (k + d)).tm.get t = (tr k).tm.get t
  | 0, k, _, _ => rfl
  | d + 1, k, hk, h => by
    have ho : ops[k + d]? = some (ops[k + d]'(by omega)) := List.getElem?_eq_getElem _
    have hn : (ops[k + d]'(by omega)).writes t = false := by
      cases hwr : (ops[k + d]'(by omega)).writes t with
      | false => rfl
      | true => have := h (k + d) _ ho hwr; omega
    have h1 := stepOp_slot (hw (k + d) _ ho) hn
    rw [← Nat.add_assoc, h1]
    refine way_slot hw t d k (by omega) fun j o hj hwr => ?_
    have h2 := h j o hj hwr
    have : j ≠ k + d := fun e => by subst e; rw [ho] at hj; cases hj; rw [hn] at hwr; cases hwr
    omega

theorem way_slot' (hw : ∀ i ao, ops[i]? = some ao → stepOp E C Y ao (tr i) = some (.normal, tr (i + 1))) {t k k' : Nat} (hk : k ≤ ops.length) (hk' : k' ≤ ops.length) (h : ∀ j o, ops[j]? = some o → o.writes t = true → (j < k ↔ j < k')) : (tr k').tm.get t = (tr k).tm.get t := by
  rcases Nat.le_total k k' with hl | hl
  · obtain ⟨d, rfl⟩ := Nat.exists_eq_add_of_le hl
    exact way_slot hw t d k hk' h
  · obtain ⟨d, rfl⟩ := Nat.exists_eq_add_of_le hl
    exact (way_slot hw t d k' hk fun j o hj hwr => (h j o hj hwr).symm).symm

theorem way_ents (hw : ∀ i ao, ops[i]? = some ao → stepOp E C Y ao (tr i) = some (.normal, tr (i + 1))) : ∀ (d k : Nat), k + d ≤ ops.length → (∀ j o, ops[j]? = some o → o.tch = .write → (j < k ↔ j < k + d)) → (tr (k + d)).H = (tr k).H
  | 0, k, _, _ => rfl
  | d + 1, k, hk, h => by
    have ho : ops[k + d]? = some (ops[k + d]'(by omega)) := List.getElem?_eq_getElem _
    have hn : (ops[k + d]'(by omega)).tch ≠ .write := fun hwr => by have := h (k + d) _ ho hwr; omega
    have h1 := stepOp_ents (hw (k + d) _ ho) hn
    rw [← Nat.add_assoc, h1]
    refine way_ents hw d k (by omega) fun j o hj hwr => ?_
    have h2 := h j o hj hwr
    have : j ≠ k + d := fun e => by subst e; rw [ho] at hj; cases hj; exact hn hwr
    omega

theorem way_ents' (hw : ∀ i ao, ops[i]? = some ao → stepOp E C Y ao (tr i) = some (.normal, tr (i + 1))) {k k' : Nat} (hk : k ≤ ops.length) (hk' : k' ≤ ops.length) (h : ∀ j o, ops[j]? = some o → o.tch = .write → (j < k ↔ j < k')) : (tr k').H = (tr k).H := by
  rcases Nat.le_total k k' with hl | hl
  · obtain ⟨d, rfl⟩ := Nat.exists_eq_add_of_le hl
    exact way_ents hw d k hk' h
  · obtain ⟨d, rfl⟩ := Nat.exists_eq_add_of_le hl
    exact (way_ents hw d k' hk fun j o hj hwr => (h j o hj hwr).symm).symm

theorem way_b (hw : ∀ i ao, ops[i]? = some ao → stepOp E C Y ao (tr i) = some (.normal, tr (i + 1))) : ∀ k, k ≤ ops.length → (tr k).b = (tr 0).b
  | 0, _ => rfl
  | k + 1, hk => by
    have ho : ops[k]? = some (ops[k]'(by omega)) := List.getElem?_eq_getElem _
    rw [← way_b hw k (by omega)]
    rcases stepOp_cases (hw k _ ho) with ⟨_, v, _, he⟩ | ⟨g, w, t', _, _, _, he⟩ <;> rw [he]

theorem clash_reads {a b : AOp} {t : Nat} (h1 : t ∈ a.reads) (h2 : b.writes t = true) : clash a b = true ∧ clash b a = true := by
  have h : a.reads.any b.writes = true := List.any_eq_true.2 ⟨t, h1, h2⟩
  simp [clash, h]

theorem clash_dst {a b : AOp} {t : Nat} (h1 : a.writes t = true) (h2 : b.writes t = true) : clash a b = true := by
  obtain ⟨hd, _⟩ := setDst_this h1 .und []
  simp [clash, hd, h2]

theorem clash_tch {a b : AOp} (h : a.tch = .write ∧ b.tch ≠ .no ∨ a.tch ≠ .no ∧ b.tch = .write) : clash a b = true := by
  unfold clash
  cases ha : a.tch <;> cases hb : b.tch <;> simp_all

/-- One operation more. -/
theorem mid_step (B : Base P E C Y L F X0) (hf : ∀ ao ∈ ops, ao.fine nt ops = true) (hdr : drawOk ops = true) (hw : ∀ i ao, ops[i]? = some ao → stepOp E C Y ao (tr i) = some (.normal, tr (i + 1))) (hb : (tr 0).b = X0.E.length)
    {S S' : Nat → Prop} (hS : Closed ops S) {i : Nat} {ao : AOp} (hi : ops[i]? = some ao) (hni : ¬ S i) (hed : ∀ e ∈ ao.o.after.toList, Region.binds .any e = true → S e.on) (hS' : ∀ j, S' j ↔ S j ∨ j = i)
    {a : Act} {X : Cx} (hm : Mid X0 L nt ops tr S a X) {K : Act → World → Prop} {Q : Exit → Act → World → Prop} (hK : ∀ a' X', Mid X0 L nt ops tr S' a' X' → K a' X'.w) :
    wpOpIn F 0 P (ops.map (·.o)).toArray Q i K a X.w := by
  have hlt := (List.getElem?_eq_some_iff.1 hi).1
  have hfi := hf ao (List.mem_of_getElem? hi)
  -- those before it that matter have come; those behind it that matter have not
  have hbef : ∀ j o, ops[j]? = some o → clash o ao = true → clash ao o = true → (j < i ↔ S j) := by
    intro j o hj hc1 hc2
    constructor
    · intro hji
      exact drawOk_spec hdr hS hji hj hi hc1 hed
    · intro hsj
      rcases Nat.lt_trichotomy j i with h | h | h
      · exact h
      · exact absurd (h ▸ hsj) hni
      · exact absurd (drawOk_spec hdr hS h hi hj hc2 (hS j o hj hsj)) hni
  -- what it looks at is as on the way
  have hsl : ∀ t, t ∈ ao.reads → VRel X L ((tr i).tm.get t) (a.tmps.getD t undef) := by
    intro t ht
    obtain ⟨k, hk, hkw, hv⟩ := hm.slots t
    rw [way_slot' hw hk (Nat.le_of_lt hlt) (fun j o hj hwr => by
      rw [hkw j o hj hwr, hbef j o hj (clash_reads ht hwr).2 (clash_reads ht hwr).1])]
    exact hv
  have hSR : SRel X L (onlyOf ao.reads (tr i).tm) a.tmps := by
    intro t
    rcases onlyOf_get (tr i).tm ao.reads t with ⟨h1, h2⟩ | h1
    · rw [h1]; exact hsl t h2
    · rw [h1]; exact .frz (.und _)
  have hent : ao.tch ≠ .no → X.H = (tr i).H := by
    intro hne
    obtain ⟨k, hk, hkw, hH⟩ := hm.ents
    rw [hH]
    refine (way_ents' hw hk (Nat.le_of_lt hlt) (fun j o hj hwr => ?_)).symm
    rw [hkw j o hj hwr, hbef j o hj (clash_tch (.inl ⟨hwr, hne⟩)) (clash_tch (.inr ⟨hne, hwr⟩))]
  have hbi : (tr i).b = X0.E.length := (way_b hw i (Nat.le_of_lt hlt)).trans hb
  have hlenX : X0.E.length ≤ X.H.length := by rw [← hm.ok.len]; exact hm.trans.lenE B.ok0
  -- behind it
  have fin : ∀ {X' : Cx} {v : AV} {cv : Value}, X'.Ok → Trans X X' → RefL X0.E.length X.H X'.H → VRel X' L v cv → (tr (i + 1)).tm = setDst ao.o.dst v (tr i).tm → (ao.tch ≠ .write → X'.H = X.H) → (ao.tch = .write → X'.H = (tr (i + 1)).H) →
      Mid X0 L nt ops tr S' (a.put ao.o.dst cv) X' := by
    intro X' v cv hok t href hv htm hnw hwr
    refine ⟨hok, hm.trans.trans t, (by rw [put_size]; exact hm.size), hm.ref.trans href, by rw [put_defers]; exact hm.defs.trans t hm.ok, fun s => ?_, ?_⟩
    · cases hws : ao.writes s with
      | true =>
        refine ⟨i + 1, hlt, fun j o hj hwj => ?_, ?_⟩
        · rw [hS', ← hbef j o hj (clash_dst hwj hws) (clash_dst hws hwj)]
          omega
        · obtain ⟨hd, hg⟩ := setDst_this hws v (tr i).tm
          rw [htm, hg, hd]
          have : s < a.tmps.size := Nat.lt_of_lt_of_le (dst_lt hfi hd) hm.size
          simp [Act.put, Array.getD_eq_getD_getElem?, this, hv]
      | false =>
        obtain ⟨k, hk, hkw, hvk⟩ := hm.slots s
        refine ⟨k, hk, fun j o hj hwj => ?_, ?_⟩
        · rw [hS', hkw j o hj hwj]
          refine ⟨.inl, fun h => h.resolve_right fun e => ?_⟩
          subst e
          rw [hi] at hj
          cases hj
          rw [hws] at hwj
          cases hwj
        · have : (a.put ao.o.dst cv).tmps.getD s undef = a.tmps.getD s undef := by
            unfold AOp.writes at hws
            cases hd : ao.o.dst with
            | none => rfl
            | some d =>
              rw [hd] at hws
              have hne : d ≠ s := fun e => by subst e; simp at hws
              simp only [Act.put, Array.getD_eq_getD_getElem?]
              rw [Array.getElem?_setIfInBounds_ne hne]
          rw [this]
          exact hvk.trans t hm.ok
    · by_cases hwt : ao.tch = .write
      · refine ⟨i + 1, hlt, fun j o hj hwj => ?_, hwr hwt⟩
        rw [hS', ← hbef j o hj (clash_tch (.inl ⟨hwj, by rw [hwt]; simp⟩)) (clash_tch (.inl ⟨hwt, by rw [hwj]; simp⟩))]
        omega
      · obtain ⟨k, hk, hkw, hH⟩ := hm.ents
        refine ⟨k, hk, fun j o hj hwj => ?_, (hnw hwt).trans hH⟩
        rw [hS', hkw j o hj hwj]
        refine ⟨.inl, fun h => h.resolve_right fun e => ?_⟩
        subst e
        rw [hi] at hj
        cases hj
        exact hwt hwj
  have hwd := wanted_of hfi hSR
  have hgs : ∀ g w, ao.g = some (g, w) → (onlyOf ao.reads (tr i).tm).get g = (tr i).tm.get g := fun g w hg => onlyOf_mem _ (by simp [AOp.reads, hg])
  rcases stepOp_cases (hw i ao hi) with ⟨hgd, v, ha, he⟩ | ⟨g, w, t, hg, ht, htw, he⟩
  · have hwt : Region.wanted ao.o (yielded (ops.map (·.o)).toArray a.tmps) = true := by
      rcases hgd with hg | ⟨g, w, hg, ht⟩
      · exact hwd.1 hg
      · rw [hwd.2.1 g w w hg (by rw [hgs g w hg]; exact ht)]; simp
    rw [← aop_only] at ha
    have htm : (tr (i + 1)).tm = setDst ao.o.dst v (tr i).tm := by rw [he]
    -- the same, at the entities as they are
    have main : ∀ H1, aop E C Y ao (tr i).b (onlyOf ao.reads (tr i).tm) X.H = some (.val v H1) → (ao.tch ≠ .write → H1 = X.H) → (ao.tch = .write → H1 = (tr (i + 1)).H) → wpOpIn F 0 P (ops.map (·.o)).toArray Q i K a X.w := by
      intro H1 h1 hnw hwr
      refine opIn_do B.tok B.cs B.wf hm.ok (B.gok.trans hm.trans B.ok0) (B.ys.later hm.trans) hi hSR hwt h1 ⟨fun v' H' e X' cv hok t hH hv => ?_, fun v' H' e => by cases e⟩
      cases e
      refine hK _ X' (fin hok t ?_ hv htm (fun h => hH.trans (hnw h)) (fun h => hH.trans (hwr h)))
      rw [hH]
      exact aop_ref B.cr B.ys.2.1 hlenX (hbi ▸ h1)
    cases hc : ao.tch with
    | no =>
      exact main X.H ((aopW_no (aval_fn _ _) hc ha).2 X.H) (fun _ => rfl) (fun h => nomatch hc.symm.trans h)
    | read =>
      have hX := hent (by rw [hc]; simp)
      rw [← hX] at ha
      exact main _ ha (fun _ => aopW_read (aval_fn _ _) hc ha) (fun h => nomatch hc.symm.trans h)
    | write =>
      have hX := hent (by rw [hc]; simp)
      rw [← hX] at ha
      exact main _ ha (fun h => absurd hc h) (fun _ => rfl)
  · have hwt : Region.wanted ao.o (yielded (ops.map (·.o)).toArray a.tmps) = false := by
      cases t with
      | bool t => rw [hwd.2.1 g w t hg (by rw [hgs g w hg]; exact ht)]; simpa [skips] using htw
      | tuple vs => exact hwd.2.2 g w vs hg (by rw [hgs g w hg]; exact ht)
      | _ => exact htw.elim
    refine opIn_not B.wf hi hwt (hK _ X (fin hm.ok (Trans.refl hm.ok) (.refl _ _) (.frz (.sc _)) (by rw [he]) (fun _ => rfl) (fun hc => ?_)))
    rw [hent (by rw [hc]; simp), he]

theorem mid_any (B : Base P E C Y L F X0) (hf : ∀ ao ∈ ops, ao.fine nt ops = true) (hdr : drawOk ops = true) (hw : ∀ i ao, ops[i]? = some ao → stepOp E C Y ao (tr i) = some (.normal, tr (i + 1))) (hb : (tr 0).b = X0.E.length)
    {Q : Exit → Act → World → Prop} (hQ : ∀ a' X', StRel X0 L nt (tr ops.length) a' X' → Q .normal a' X'.w) : ∀ (fuel : Nat) (listed : Array Bool) (a : Act) (X : Cx), listed.size = ops.length → cnt listed ops.length = fuel →
      Closed ops (fun j => listed.getD j false = true) → Mid X0 L nt ops tr (fun j => listed.getD j false = true) a X → wpAnyIn F 0 P .any (ops.map (·.o)).toArray Q fuel listed a X.w
  | 0, listed, a, X, hsz, hc, hcl, hm => by
    have hall := cnt_zero hc
    refine ⟨?_, hQ a X ⟨hm.ok, hm.trans, ?_, fun t => ?_, hm.size, (way_b hw _ (Nat.le_refl _)).trans hb, ?_, hm.defs⟩⟩
    · cases hr : Region.ready .any (ops.map (·.o)).toArray listed with
      | nil => rfl
      | cons j js =>
        have hj : j ∈ Region.ready .any (ops.map (·.o)).toArray listed := by rw [hr]; exact List.mem_cons_self ..
        obtain ⟨h1, o, ho, _⟩ := mem_ready.1 hj
        have hjl : j < ops.length := by
          have := (Array.getElem?_eq_some_iff.1 ho).1
          simpa using this
        have h2 := hall j hjl
        rw [Array.getD_eq_getD_getElem?, Array.getElem?_eq_getElem (by omega)] at h1 h2
        simp only [Option.getD_some] at h1 h2
        rw [h1] at h2
        cases h2
    · obtain ⟨k, hk, hkw, hH⟩ := hm.ents
      rw [hH]
      refine (way_ents' hw hk (Nat.le_refl _) fun j o hj hwj => ?_).symm
      have hjl := (List.getElem?_eq_some_iff.1 hj).1
      rw [hkw j o hj hwj]
      exact ⟨fun _ => hjl, fun _ => hall j hjl⟩
    · obtain ⟨k, hk, hkw, hv⟩ := hm.slots t
      rw [way_slot' hw hk (Nat.le_refl _) fun j o hj hwj => ?_]
      · exact hv
      · have hjl := (List.getElem?_eq_some_iff.1 hj).1
        rw [hkw j o hj hwj]
        exact ⟨fun _ => hjl, fun _ => hall j hjl⟩
    · rw [(way_b hw _ (Nat.le_refl _)).trans hb]
      obtain ⟨k, hk, hkw, hH⟩ := hm.ents
      have := way_ents' hw hk (Nat.le_refl _) (fun j o hj hwj => by
        have hjl := (List.getElem?_eq_some_iff.1 hj).1
        rw [hkw j o hj hwj]
        exact ⟨fun _ => hjl, fun _ => hall j hjl⟩)
      rw [this, ← hH]
      exact hm.ref
  | fuel + 1, listed, a, X, hsz, hc, hcl, hm => by
    refine ⟨fun hr => ?_, fun i hi => ?_⟩
    · obtain ⟨j, hj, hjl, hfirst⟩ := cnt_first (listed := listed) (n := ops.length) (by omega)
      have ho : ops[j]? = some ops[j] := List.getElem?_eq_getElem hj
      have : j ∈ Region.ready .any (ops.map (·.o)).toArray listed := by
        refine mem_ready.2 ⟨?_, ops[j].o, by simp [ho], fun e he hb => hfirst _ (drawOk_edge hdr ho e (by simpa using he) hb)⟩
        rw [Array.getD_eq_getD_getElem?, Array.getElem?_eq_getElem (by omega)] at hjl ⊢
        simpa using hjl
      rw [hr] at this
      cases this
    · obtain ⟨h1, o, ho, hed⟩ := mem_ready.1 hi
      simp only [List.getElem?_toArray, List.getElem?_map] at ho
      obtain ⟨ao, hao, rfl⟩ := Option.map_eq_some_iff.1 ho
      have hlt : i < listed.size := by rw [hsz]; exact (List.getElem?_eq_some_iff.1 hao).1
      have hni : listed.getD i false = false := by
        rw [Array.getD_eq_getD_getElem?, Array.getElem?_eq_getElem hlt] at h1 ⊢
        simpa using h1
      have hS' : ∀ j, (listed.setIfInBounds i true).getD j false = true ↔ listed.getD j false = true ∨ j = i := by
        intro j
        by_cases hij : i = j
        · subst hij
          simp [getD_set_same hlt]
        · rw [getD_set_ne false hij]
          exact ⟨.inl, fun h => h.resolve_right (fun e => hij e.symm)⟩
      refine mid_step (S' := fun j => (listed.setIfInBounds i true).getD j false = true) B hf hdr hw hb hcl hao (by simp [hni]) (fun e he hbn => hed e (by simpa using he) hbn) hS' hm fun a' X' hm' => ?_
      refine mid_any B hf hdr hw hb hQ fuel _ a' X' (by simpa using hsz) ?_ ?_ hm'
      · have := cnt_set hlt hni ops.length
        rw [if_pos (by omega)] at this
        omega
      · intro k o hk hSk e he hbn
        rw [hS'] at hSk ⊢
        rcases hSk with hSk | rfl
        · exact .inl (hcl k o hk hSk e he hbn)
        · rw [hao] at hk
          cases hk
          exact .inl (hed e (by simpa using he) hbn)

/-- A region whose order is drawn. -/
theorem draw_sound (hmix : P.follows .mixedOrders = true) (B : Base P E C Y L F X0) (hf : ∀ ao ∈ ops, ao.fine nt ops = true) (hdr : drawOk ops = true) {id : Nat} {st st' : St} {a : Act} {X : Cx} {Q : Exit → Act → World → Prop}
    (hS : StRel X0 L nt st a X) (h : runOps E C Y ops st = some (.normal, st')) (hon : Onward L (StRel X0 L nt) .normal st' Q) : (Code.region id (ops.map (·.o)).toArray true).wpIn F 0 P Q a X.w := by
  refine wpIn_region_any hmix ?_
  obtain ⟨tr, rfl, rfl, hw⟩ := runOps_way h
  have hs : Later X.w ({ X.w with drawn := X.w.drawn + 1 } : World) := ⟨Nat.le_refl _, rfl, rfl⟩
  have hk : ∀ b, b < X.w.heap.size → ({ X.w with drawn := X.w.drawn + 1 } : World).heap[b]? = X.w.heap[b]? := fun _ _ => rfl
  have t := Cx.at_trans hS.ok hs hk
  have hok := Cx.at_ok hS.ok hs hk
  have none : ∀ j, ¬ ((Array.replicate ops.length false).getD j false = true) := fun j => by
    simp [Array.getD_eq_getD_getElem?]
    by_cases hj : j < ops.length <;> simp [hj]
  rw [List.size_toArray, List.length_map]
  refine mid_any B hf hdr hw hS.b hon ops.length _ a (X.at { X.w with drawn := X.w.drawn + 1 }) (by simp) (cnt_replicate _ _ (Nat.le_refl _)) (fun k o _ h => absurd h (none k)) ?_
  refine ⟨hok, hS.trans.trans t, hS.size, by have := hS.ref; rw [hS.b] at this; rw [← hS.hH] at this; exact this, hS.defs.trans t hS.ok, fun s => ⟨0, Nat.zero_le _, fun j o _ _ => ⟨fun h => by omega, fun h => absurd h (none j)⟩, (hS.slots s).trans t hS.ok⟩,
    ⟨0, Nat.zero_le _, fun j o _ _ => ⟨fun h => by omega, fun h => absurd h (none j)⟩, hS.hH⟩⟩
end
end
end Go.Abs

