/- One operation: what the machine does with it. -/
import Derived.Test.YtlphdiccffnckaaOpt
import Derived.Laws.Build
namespace Go.Abs

/-- The fences under which we walk: none; within a round of a range over a function. -/
def WF (F : Fence) : Prop := F = Fence.wide ∨ ∃ l, F = Fence.wide.inRound l

theorem WF.fn {F : Fence} (h : WF F) (f : FuncId) : F.fn f := by rcases h with rfl | ⟨l, rfl⟩ <;> trivial
theorem WF.depth {F : Fence} (h : WF F) : F.depth = none := by rcases h with rfl | ⟨l, rfl⟩ <;> rfl
theorem WF.calls {F : Fence} (h : WF F) {n : Nat} {P : Program} {f : FuncId} {args : Array Value} {w : World} {R : Ending → World → Prop} (hc : CallsIn Fence.wide n P f args w R) : CallsIn F n P f args w R := by
  rcases h with rfl | ⟨l, rfl⟩ <;> exact hc
theorem WF.round {F : Fence} (h : WF F) {n l : Nat} {P : Program} {f : FuncId} {tmps : Array Value} {a b : Code} {w : World} {R : Ending → World → Prop} (hc : RoundIn Fence.wide n P l f tmps a b w R) : RoundIn F n P l f tmps a b w R := by
  rcases h with rfl | ⟨l, rfl⟩ <;> exact hc

def SRel (X : Cx) (L : List Nat) (tm : Slots) (tmps : Array Value) : Prop := ∀ t, VRel X L (tm.get t) (tmps.getD t undef)
def ARel (X : Cx) (L : List Nat) (as : List AV) (vs : Array Value) : Prop := vs.size = as.length ∧ ∀ (i : Nat) a v, as[i]? = some a → vs[i]? = some v → VRel X L a v
def GOk (G : Nat → AV) (X : Cx) : Prop := ∀ g, FRel X.w X.M (G g) (.pointer (some ⟨g, 0, none⟩))

/-- What a call leaves. -/
def OutPost (X : Cx) (L : List Nat) (o : Out) (H' : List Ent) : Ending → World → Prop := fun e w' =>
  ∃ X' : Cx, X'.w = w' ∧ X'.H = H' ∧ X'.Ok ∧ Trans X X' ∧
    match o with
    | .ret v => ∃ cv, e = .returned cv ∧ VRel X' L v cv
    | .pan v => ∃ cv, e = .panicked [{ v := cv, recovered := false }] ∧ VRel X' L v cv

/-- The entities below b are still there, and lead nowhere new. -/
def RefL (b : Nat) (H H' : List Ent) : Prop := ∀ (k : Nat) h, k < b → H[k]? = some h → ∃ h', H'[k]? = some h' ∧ ∀ n, Ent.under n h = true → Ent.under n h' = true

def YRef (Y : List YF) : Prop := ∀ y ∈ Y, ∀ args H o H', y args H = some (o, H') → RefL H.length H H'

/-- The yield functions do what is said of them. -/
def YSound (P : Program) (X0 : Cx) (L : List Nat) (Y : List YF) : Prop :=
  L.length = Y.length ∧ YRef Y ∧ ∀ (j : Nat) y l, Y[j]? = some y → L[j]? = some l → ∀ X L' args cargs o H', Trans X0 X → X.Ok → ARel X L' args cargs → y args X.H = some (o, H') →
    ∃ fn tmps asg body, (Instr.yield l cargs).run P X.w = .ok (.round l fn tmps asg body) X.w ∧ RoundIn Fence.wide 0 P l fn tmps asg body X.w (OutPost X L o H')

/-- The functions do what is said of them. -/
def CSound (P : Program) (G : Nat → AV) (C : CF) : Prop :=
  ∀ f args H Y o H', C f args H Y = some (o, H') → (∀ (w : World) vs, (callFunc f vs).run P w = .ok (.enter f vs) w) ∧
    ∀ X L cargs, X.H = H → X.Ok → GOk G X → ARel X L args cargs → YSound P X L Y → CallsIn Fence.wide 0 P f cargs X.w (OutPost X L o H')

theorem YSound.later {P : Program} {X0 X : Cx} {L : List Nat} {Y : List YF} (h : YSound P X0 L Y) (t : Trans X0 X) : YSound P X L Y :=
  ⟨h.1, h.2.1, fun j y l hy hl X' L' args cargs o H' t' => h.2.2 j y l hy hl X' L' args cargs o H' (t.trans t')⟩
theorem YSound.nil {P : Program} {X : Cx} : YSound P X [] [] := ⟨rfl, fun y hy => (by simp at hy), fun j y l hy => by simp at hy⟩
theorem GOk.trans {G : Nat → AV} {X X' : Cx} (h : GOk G X) (t : Trans X X') (hX : X.Ok) : GOk G X' := fun g => (h g).trans t hX
theorem SRel.trans {X X' : Cx} {L : List Nat} {tm : Slots} {tmps : Array Value} (h : SRel X L tm tmps) (t : Trans X X') (hX : X.Ok) : SRel X' L tm tmps := fun k => (h k).trans t hX

theorem beq_ne {k t : Nat} (h : k ≠ t) : Nat.beq k t = false := by
  cases hb : Nat.beq k t with
  | false => rfl
  | true => exact absurd (Nat.eq_of_beq_eq_true hb) h

theorem get_put (tm : Slots) (d t : Nat) (v : AV) : (tm.put d v).get t = if d = t then v else tm.get t := by
  by_cases h : d = t
  · subst h; simp only [Slots.put, Slots.get, Nat.beq_refl, cond_true, if_true]
  · simp only [Slots.put, Slots.get, beq_ne h, cond_false, if_neg h]

theorem SRel.put {X : Cx} {L : List Nat} {tm : Slots} {a : Act} (h : SRel X L tm a.tmps) {dst : Option Nat} {v : AV} {cv : Value} (hd : ∀ d, dst = some d → d < a.tmps.size) (hv : VRel X L v cv) :
    SRel X L (setDst dst v tm) (a.put dst cv).tmps := by
  intro t
  cases dst with
  | none => exact h t
  | some d =>
    simp only [setDst, Act.put, get_put]
    by_cases hdt : d = t
    · subst hdt
      rw [if_pos rfl]
      simp [Array.getD_eq_getD_getElem?, hd d rfl, hv]
    · rw [if_neg hdt]
      have := h t
      simp only [Array.getD_eq_getD_getElem?] at this ⊢
      rw [Array.getElem?_setIfInBounds_ne hdt]
      exact this

section
variable {P : Program} {E : Env} {C : CF} {Y : List YF} {X : Cx} {L : List Nat} {F : Fence}

theorem aval_rel (hG : GOk E.G X) {tm : Slots} {a : Act} (hS : SRel X L tm a.tmps) (x : Operand) : VRel X L (aval E.G tm x) (a.eval x) := by
  cases x with
  | tmp t => exact hS t
  | const v => exact .frz (.sc v)
  | global g => exact .frz (hG g)
  | func f => exact .frz (.fn rfl (by simp))

theorem avals_rel (hG : GOk E.G X) {tm : Slots} {a : Act} (hS : SRel X L tm a.tmps) (xs : Array Operand) : ARel X L (xs.toList.map (aval E.G tm)) (xs.map a.eval) := by
  refine ⟨by simp, fun i x v hx hv => ?_⟩
  simp only [List.getElem?_map, Array.getElem?_toList] at hx
  simp only [Array.getElem?_map] at hv
  cases hxi : xs[i]? with
  | none => simp [hxi] at hx
  | some o =>
    simp [hxi] at hx hv
    subst hx
    subst hv
    exact aval_rel hG hS o

theorem oval_rel (hG : GOk E.G X) {tm : Slots} {a : Act} (hS : SRel X L tm a.tmps) (x : Option Operand) : ORel X L (x.map (aval E.G tm)) (x.map a.eval) := by
  cases x with
  | none => trivial
  | some x => exact aval_rel hG hS x

theorem parts_rel (hG : GOk E.G X) {tm : Slots} {a : Act} (hS : SRel X L tm a.tmps) (ps : Array (Nat × Operand)) :
    (ps.map fun (i, x) => (i, a.eval x)).size = (ps.toList.map fun p => (p.1, aval E.G tm p.2)).length ∧
    ∀ (j : Nat) p q, (ps.toList.map fun p => (p.1, aval E.G tm p.2))[j]? = some p → (ps.map fun (i, x) => (i, a.eval x))[j]? = some q → p.1 = q.1 ∧ VRel X L p.2 q.2 := by
  refine ⟨by simp, fun j p q hp hq => ?_⟩
  simp only [List.getElem?_map, Array.getElem?_toList] at hp
  simp only [Array.getElem?_map] at hq
  cases hxi : ps[j]? with
  | none => simp [hxi] at hp
  | some o =>
    simp [hxi] at hp hq
    subst hp
    subst hq
    exact ⟨rfl, aval_rel hG hS o.2⟩

theorem wpIn_of_exec (hF : WF F) {o : Oper} {a : Act} {w : World} {next : Act → World → Prop} {Q : Exit → Act → World → Prop} (hd : ∀ c, o.op ≠ .defer c)
    (h : o.uponIn F 0 P a next Q ((execOp a.eval o).run P w)) : o.wpIn F 0 P a w next Q := by
  refine ⟨fun f _ => hF.fn f, ?_⟩
  rw [Oper.semAt_eq _ _ _ hd]
  exact h

/-- What must be shown behind an operation. -/
structure Goals (X : Cx) (L : List Nat) (a : Act) (dst : Option Nat) (r : OR) (next : Act → World → Prop) (Q : Exit → Act → World → Prop) : Prop where
  val : ∀ v H', r = .val v H' → ∀ (X' : Cx) cv, X'.Ok → Trans X X' → X'.H = H' → VRel X' L v cv → next (a.put dst cv) X'.w
  pan : ∀ v H', r = .pan v H' → ∀ (X' : Cx) cv, X'.Ok → Trans X X' → X'.H = H' → VRel X' L v cv → Q (.panic [{ v := cv, recovered := false }]) a X'.w

theorem enter_sound (hF : WF F) {o : Oper} {a : Act} {next : Act → World → Prop} {Q : Exit → Act → World → Prop} {f : FuncId} {args : Array Value} {w : World} {R : Ending → World → Prop}
    (hc : CallsIn Fence.wide 0 P f args w R) (hr : ∀ v w', R (.returned v) w' → next (a.put o.dst v) w') (hp : ∀ ch w', R (.panicked ch) w' → Q (.panic ch) a w') (ho : ∀ w', ¬ R .outgrown w') :
    o.uponIn F 0 P a next Q (.ok (.enter f args) w) := by
  refine ⟨fun h => by simp [hF.depth] at h, (hF.calls hc).mono fun e w' he => ?_⟩
  cases e with
  | returned v => exact hr v w' he
  | panicked ch => exact hp ch w' he
  | outgrown => exact absurd he (ho w')

theorem lendAll_rel (hX : X.Ok) : ∀ {as rs : List AV} {vs : List Value}, lendAll X.H as = some rs → vs.length = as.length → (∀ (i : Nat) a v, as[i]? = some a → vs[i]? = some v → VRel X L a v) →
    vs.length = rs.length ∧ ∀ (i : Nat) a v, rs[i]? = some a → vs[i]? = some v → FRel X.lent.w X.lent.M a v
  | [], rs, vs, h, hl, _ => by
    simp only [lendAll, Option.some.injEq] at h
    subst h
    exact ⟨hl, fun i a v ha => by simp at ha⟩
  | a :: as, rs, [], h, hl, _ => by simp at hl
  | a :: as, rs, v :: vs, h, hl, hp => by
    simp only [lendAll] at h
    obtain ⟨r, h1, h2⟩ := Option.bind_eq_some_iff.1 h
    obtain ⟨rs', h3, rfl⟩ := Option.map_eq_some_iff.1 h2
    obtain ⟨h4, h5⟩ := lendAll_rel (vs := vs) hX h3 (by simpa using hl) (fun i a v ha hv => hp (i + 1) a v (by simpa using ha) (by simpa using hv))
    refine ⟨by simp [h4], fun i c u hc hu => ?_⟩
    cases i with
    | zero =>
      simp at hc hu
      subst hc
      subst hu
      exact lend_run hX h1 (hp 0 a v rfl rfl)
    | succ i => exact h5 i c u (by simpa using hc) (by simpa using hu)

/-- Back from a call that was handed no memory of ours. -/
theorem back_bare (hX : X.Ok) {X1 X' : Cx} (hw : X1.w = X.w) (hM : ∀ b, X1.M b → X.M b) (hE : X1.E = []) (t : Trans X1 X') : (X.at X'.w).Ok ∧ Trans X (X.at X'.w) := by
  have hs : Later X.w X'.w := hw ▸ t.later
  have hk : ∀ b, b < X.w.heap.size → X'.w.heap[b]? = X.w.heap[b]? := fun b hb => by
    rw [← hw]
    exact t.same b (by rw [hw]; exact hb) (fun ⟨k, e, hk, _⟩ => by simp [hE] at hk)
  exact ⟨Cx.at_ok hX hs hk, Cx.at_trans hX hs hk⟩

theorem callFn_sound (hC : CSound P E.G C) (hF : WF F) (hX : X.Ok) (hG : GOk E.G X) (hY : YSound P X L Y) {f : Fl} {callee : AV} {args : List AV} {r : OR} (h : aCallFn C Y f X.H callee args = some r)
    {cf : Value} {cargs : Array Value} (hf : VRel X L callee cf) (ha : ARel X L args cargs) {o : Oper} {a : Act} {next : Act → World → Prop} {Q : Exit → Act → World → Prop} (hg : Goals X L a o.dst r next Q) :
    o.uponIn F 0 P a next Q ((do let d ← Deferred.ofValue cf cargs; invoke d.target d.args : Sem Next).run P X.w) := by
  unfold aCallFn at h
  split at h
  · rename_i g caps
    obtain ⟨vs, rfl, hl, hp⟩ := hf.fn_inv
    have hargs : ARel X L (args ++ caps) (cargs ++ vs) := by
      refine ⟨by simp [ha.1, hl], fun i x v hx hv => ?_⟩
      rw [Array.getElem?_append] at hv
      rw [List.getElem?_append] at hx
      rw [← ha.1] at hx
      split at hv
      · rw [if_pos (by assumption)] at hx
        exact ha.2 i x v hx hv
      · rw [if_neg (by assumption)] at hx
        exact hp _ x v hx hv
    have hrun : ∀ (hcf : ∀ (w : World) vs, (callFunc g vs).run P w = .ok (.enter g vs) w), (do let d ← Deferred.ofValue (.func (.func g) #[] vs) cargs; invoke d.target d.args : Sem Next).run P X.w = .ok (.enter g (cargs ++ vs)) X.w := by
      intro hcf
      simp only [Deferred.ofValue, Sem.run_bind, Sem.run_pure, Result.andThen_ok, invoke, Array.empty_append, hcf]
    have pureCase : ∀ (X1 : Cx), X1.w = X.w → (∀ b, X1.M b → X.M b) → X1.E = [] → X1.H = [] → X1.Ok → ∀ as, ARel X1 [] as (cargs ++ vs) → ∀ o' H1, C g as [] [] = some (o', H1) →
        ∀ (hr : ∀ X' cv v, Trans X1 X' → X'.Ok → X'.H = H1 → VRel X' [] v cv → o' = .ret v → next (a.put o.dst cv) X'.w) (hpn : ∀ X' cv v, Trans X1 X' → VRel X' [] v cv → o' = .pan v → Q (.panic [{ v := cv, recovered := false }]) a X'.w),
        o.uponIn F 0 P a next Q ((do let d ← Deferred.ofValue (.func (.func g) #[] vs) cargs; invoke d.target d.args : Sem Next).run P X.w) := by
      intro X1 hw1 hM1 hE1 hH1 hok1 as has o' H1 hcall hr hpn
      obtain ⟨hcf, hcs⟩ := hC g as [] [] o' H1 hcall
      have hG1 : GOk E.G X1 := fun gg => (hG gg).keep (by rw [hw1]; exact Nat.le_refl _) fun b _ hm => ⟨by rw [hw1], fun h => hm (hM1 b h)⟩
      have hcalls := hcs X1 [] (cargs ++ vs) hH1 hok1 hG1 has .nil
      rw [hw1] at hcalls
      rw [hrun hcf]
      refine enter_sound hF hcalls (fun cv w' hpst => ?_) (fun ch w' hpst => ?_) (fun w' hpst => ?_)
      · obtain ⟨X', rfl, hH', hok', t', hm⟩ := hpst
        cases o' with
        | ret v =>
          obtain ⟨cv', he, hv⟩ := hm
          cases he
          exact hr X' _ v t' hok' hH' hv rfl
        | pan v =>
          obtain ⟨cv', he, _⟩ := hm
          cases he
      · obtain ⟨X', rfl, _, hok', t', hm⟩ := hpst
        cases o' with
        | ret v =>
          obtain ⟨cv', he, hv⟩ := hm
          cases he
        | pan v =>
          obtain ⟨cv', he, hv⟩ := hm
          cases he
          exact hpn X' _ v t' hv rfl
      · obtain ⟨X', rfl, _, _, _, hm⟩ := hpst
        cases o' with
        | ret v => obtain ⟨cv', he, _⟩ := hm; cases he
        | pan v => obtain ⟨cv', he, _⟩ := hm; cases he
    have gen : outR (C g (args ++ caps) X.H Y) = some r → o.uponIn F 0 P a next Q ((do let d ← Deferred.ofValue (.func (.func g) #[] vs) cargs; invoke d.target d.args : Sem Next).run P X.w) := by
      intro h
      cases hcall : C g (args ++ caps) X.H Y with
      | none => simp [hcall, outR] at h
      | some oh =>
        obtain ⟨o', H'⟩ := oh
        obtain ⟨hcf, hcs⟩ := hC _ _ _ _ _ _ hcall
        rw [hrun hcf]
        have hcalls := hcs X L (cargs ++ vs) rfl hX hG hargs hY
        refine enter_sound hF hcalls (fun cv w' hpst => ?_) (fun ch w' hpst => ?_) (fun w' hpst => ?_)
        · obtain ⟨X', rfl, hH, hok', t', hm⟩ := hpst
          cases o' with
          | ret v =>
            obtain ⟨cv', he, hv⟩ := hm
            cases he
            simp only [hcall, outR, Option.some.injEq] at h
            exact hg.val v H' h.symm X' _ hok' t' hH hv
          | pan v => obtain ⟨cv', he, _⟩ := hm; cases he
        · obtain ⟨X', rfl, hH, hok', t', hm⟩ := hpst
          cases o' with
          | ret v => obtain ⟨cv', he, _⟩ := hm; cases he
          | pan v =>
            obtain ⟨cv', he, hv⟩ := hm
            cases he
            simp only [hcall, outR, Option.some.injEq] at h
            exact hg.pan v H' h.symm X' _ hok' t' hH hv
        · obtain ⟨X', rfl, _, _, _, hm⟩ := hpst
          cases o' with
          | ret v => obtain ⟨cv', he, _⟩ := hm; cases he
          | pan v => obtain ⟨cv', he, _⟩ := hm; cases he
    cases f with
    | gen => exact gen h
    | own => exact gen h
    | lend =>
      simp only at h
      split at h
      · cases h
      · rename_i as hlend
        split at h
        · rename_i hpc
          obtain ⟨q1, q2⟩ := lendAll_rel (vs := cargs.toList) hX hlend (by simpa using ha.1) (fun i x v hx hv => ha.2 i x v hx (by simpa using hv))
          have has : ARel X.lent [] (as ++ caps) (cargs ++ vs) := by
            refine ⟨by simp at q1; simp [q1, hl], fun i x v hx hv => ?_⟩
            rw [Array.getElem?_append] at hv
            rw [List.getElem?_append] at hx
            rw [← q1, Array.length_toList] at hx
            split at hv
            · rw [if_pos (by assumption)] at hx
              exact .frz (q2 i x v hx (by simpa using hv))
            · rw [if_neg (by assumption)] at hx
              exact .frz (((hp _ x v hx hv).pure (pureL_get hpc _ _ hx)).keep (Nat.le_refl _) fun b _ hm => ⟨rfl, fun h => hm h.1⟩)
          split at h
          · rename_i v H1 hcall
            split at h
            · rename_i hflat
              cases h
              refine pureCase X.lent rfl (fun b h => h.1) rfl rfl (Cx.lent_ok hX) _ has _ _ hcall (fun X' cv v' t' _ _ hv ho => ?_) (fun X' cv v' t' hv ho => by cases ho)
              cases ho
              obtain ⟨b1, b2⟩ := back_bare hX (X1 := X.lent) rfl (fun b h => h.1) rfl t'
              exact hg.val _ _ rfl (X.at X'.w) cv b1 b2 rfl (flat_any hv hflat)
            · cases h
          · cases h
        · cases h
    | non =>
      simp only at h
      split at h
      · rename_i hpp
        simp only [Bool.and_eq_true] at hpp
        have has : ARel X.bare [] (args ++ caps) (cargs ++ vs) := by
          refine ⟨hargs.1, fun i x v hx hv => .frz ((hargs.2 i x v hx hv).pure ?_)⟩
          rw [List.getElem?_append] at hx
          split at hx
          · exact pureL_get hpp.1 _ _ hx
          · exact pureL_get hpp.2 _ _ hx
        have back : ∀ (X' : Cx) cv v, Trans X.bare X' → VRel X' [] v cv → AV.pure v = true → VRel (X.at X'.w) L v cv := by
          intro X' cv v t' hv hpv
          refine .frz ((hv.pure hpv).keep (Nat.le_refl _) fun b _ hm => ⟨rfl, fun hxm => hm (t'.mKeep b (hX.bnd b hxm) hxm ?_)⟩)
          rintro ⟨k, e, hk, _⟩
          simp [Cx.bare] at hk
        split at h
        · rename_i v H1 hcall
          split at h
          · rename_i v' hbv
            cases h
            refine pureCase X.bare rfl (fun b h => h) rfl rfl (Cx.bare_ok hX) _ has _ _ hcall (fun X' cv v0 t' hok' hH' hv ho => ?_) (fun X' cv v' t' hv ho => by cases ho)
            cases ho
            unfold bareRet at hbv
            split at hbv
            · rename_i hpv
              cases hbv
              obtain ⟨b1, b2⟩ := back_bare hX (X1 := X.bare) rfl (fun b h => h) rfl t'
              exact hg.val _ _ rfl (X.at X'.w) cv b1 b2 rfl (back X' cv _ t' hv hpv)
            · split at hbv
              · rename_i v1 hfr
                split at hbv
                · rename_i hpv
                  cases hbv
                  have hv2 := freeze_run hok' 6 _ _ _ [] (hH' ▸ hfr) hv
                  have t2 : Trans X.bare (X'.cut 0) := t'.cut (Nat.le_refl 0)
                  obtain ⟨b1, b2⟩ := back_bare hX (X1 := X.bare) rfl (fun b h => h) rfl t2
                  exact hg.val _ _ rfl (X.at X'.w) cv b1 b2 rfl (back (X'.cut 0) cv _ t2 hv2 hpv)
                · cases hbv
              · cases hbv
          · cases h
        · rename_i v H1 hcall
          split at h
          · rename_i hpv
            cases h
            refine pureCase X.bare rfl (fun b h => h) rfl rfl (Cx.bare_ok hX) _ has _ _ hcall (fun X' cv v' t' _ _ hv ho => by cases ho) (fun X' cv v' t' hv ho => ?_)
            cases ho
            obtain ⟨b1, b2⟩ := back_bare hX (X1 := X.bare) rfl (fun b h => h) rfl t'
            exact hg.pan _ _ rfl (X.at X'.w) cv b1 b2 rfl (back X' cv _ t' hv hpv)
          · cases h
        · cases h
      · cases h
    | cln =>
      simp only at h
      split at h
      · rename_i hpp
        simp only [Bool.and_eq_true] at hpp
        have back : ∀ (X' : Cx) cv v, Trans X.bare X' → VRel X' [] v cv → AV.pure v = true → VRel (X.at X'.w) L v cv := by
          intro X' cv v t' hv hpv
          refine .frz ((hv.pure hpv).keep (Nat.le_refl _) fun b _ hm => ⟨rfl, fun hxm => hm (t'.mKeep b (hX.bnd b hxm) hxm ?_)⟩)
          rintro ⟨k, e, hk, _⟩
          simp [Cx.bare] at hk
        have bareOk : ∀ {X' : Cx} {cv : Value} {v v' : AV} {H1 : List Ent}, bareRet H1 v = some v' → Trans X.bare X' → X'.Ok → X'.H = H1 → VRel X' [] v cv → (X.at X'.w).Ok ∧ Trans X (X.at X'.w) ∧ VRel (X.at X'.w) L v' cv := by
          intro X' cv v v' H1 hbv t' hok' hH' hv
          unfold bareRet at hbv
          split at hbv
          · rename_i hpv
            cases hbv
            obtain ⟨b1, b2⟩ := back_bare hX (X1 := X.bare) rfl (fun b h => h) rfl t'
            exact ⟨b1, b2, back X' cv _ t' hv hpv⟩
          · split at hbv
            · rename_i v1 hfr
              split at hbv
              · rename_i hpv
                cases hbv
                have hv2 := freeze_run hok' 6 _ _ _ [] (hH' ▸ hfr) hv
                have t2 : Trans X.bare (X'.cut 0) := t'.cut (Nat.le_refl 0)
                obtain ⟨b1, b2⟩ := back_bare hX (X1 := X.bare) rfl (fun b h => h) rfl t2
                exact ⟨b1, b2, back (X'.cut 0) cv _ t2 hv2 hpv⟩
              · cases hbv
            · cases hbv
        have bareAll : ∀ as, ARel X.bare [] as (cargs ++ vs) → ∀ o' H1, C g as [] [] = some (o', H1) →
            ∀ (hr : ∀ X' cv v v', X'.Ok → Trans X X' → X'.H = X.H → bareRet H1 v = some v' → VRel X' L v' cv → o' = .ret v → next (a.put o.dst cv) X'.w) (hrn : ∀ v, o' = .ret v → (bareRet H1 v).isSome)
            (hpn : ∀ X' cv v, X'.Ok → Trans X X' → X'.H = X.H → AV.pure v = true → VRel X' L v cv → o' = .pan v → Q (.panic [{ v := cv, recovered := false }]) a X'.w) (hpp : ∀ v, o' = .pan v → AV.pure v = true),
            o.uponIn F 0 P a next Q ((do let d ← Deferred.ofValue (.func (.func g) #[] vs) cargs; invoke d.target d.args : Sem Next).run P X.w) := by
          intro as has o' H1 hcall hr hrn hpn hpp
          refine pureCase X.bare rfl (fun b h => h) rfl rfl (Cx.bare_ok hX) _ has _ _ hcall (fun X' cv v t' hok' hH' hv ho => ?_) (fun X' cv v t' hv ho => ?_)
          · obtain ⟨v', hbv⟩ := Option.isSome_iff_exists.1 (hrn v ho)
            obtain ⟨q1, q2, q3⟩ := bareOk hbv t' hok' hH' hv
            exact hr (X.at X'.w) cv v v' q1 q2 rfl hbv q3 ho
          · obtain ⟨b1, b2⟩ := back_bare hX (X1 := X.bare) rfl (fun b h => h) rfl t'
            exact hpn (X.at X'.w) cv v b1 b2 rfl (hpp v ho) (back X' cv _ t' hv (hpp v ho)) ho
        split at h
        · rename_i f0 z0
          split at h
          · rename_i hboth
            simp only [Bool.and_eq_true] at hboth
            cases h
            have hsz : cargs.size = 1 := ha.1
            have h00 := ha.2 0 _ (cargs[0]'(by omega)) rfl (Array.getElem?_eq_getElem _)
            obtain ⟨aa, cap, hva⟩ : ∃ (aa : Option Addr) (cap : Nat), cargs[0]'(by omega) = .slice aa 0 cap := by
              generalize cargs[0]'(by omega) = cv0 at h00
              obtain ⟨aa, cap, hh, _⟩ := h00.sl_inv
              exact ⟨aa, cap, hh⟩
            have has : ARel X.bare [] (.nsl aa.isNone z0 :: caps) (cargs ++ vs) := by
              refine ⟨by simp [hsz, hl]; omega, fun i x v hx hv => .frz ?_⟩
              rw [Array.getElem?_append] at hv
              cases i with
              | zero =>
                rw [if_pos (by omega), Array.getElem?_eq_getElem (by omega)] at hv
                simp only [List.getElem?_cons_zero, Option.some.injEq] at hx hv
                rw [← hx, ← hv, hva]
                exact .nsl rfl
              | succ i =>
                rw [if_neg (by omega), hsz] at hv
                simp only [List.getElem?_cons_succ] at hx
                simp only [Nat.add_sub_cancel] at hv
                exact (hp i x v hx hv).pure (pureL_get hpp.2 _ _ hx)
            have hask : askEmpty C g (.nsl aa.isNone z0 :: caps) = true := by
              cases aa with
              | none => exact hboth.1
              | some _ => exact hboth.2
            unfold askEmpty at hask
            split at hask
            · rename_i v H1 hcall
              split at hask
              · rename_i v' hbv
                refine bareAll _ has _ _ hcall (fun X' cv v2 v2' q1 q2 q3 hb2 q4 ho => ?_) (fun v2 ho => by cases ho; simp [hbv]) (fun X' cv v _ _ _ _ _ ho => by cases ho) (fun v ho => by cases ho)
                cases ho
                rw [hbv] at hb2
                cases hb2
                refine hg.val _ _ rfl X' cv q1 q2 q3 ?_
                unfold emptySl at hask
                split at hask
                · rw [q4.sc_inv]
                  exact .frz (.slE (by simp))
                · cases q4 with
                  | frz h => cases h with
                    | slE => exact .frz (.slE (by simp))
                    | sl _ hn => simp at hn; subst hn; exact .frz (.slE (by simp))
                · cases hask
              · cases hask
            · cases hask
          · cases h
        · have has : ARel X.bare [] (args ++ caps) (cargs ++ vs) := by
            refine ⟨hargs.1, fun i x v hx hv => .frz ((hargs.2 i x v hx hv).pure ?_)⟩
            rw [List.getElem?_append] at hx
            split at hx
            · exact pureL_get hpp.1 _ _ hx
            · exact pureL_get hpp.2 _ _ hx
          unfold bareCall at h
          split at h
          · rename_i v H1 hcall
            split at h
            · rename_i v' hbv
              cases h
              refine bareAll _ has _ _ hcall (fun X' cv v2 v2' q1 q2 q3 hb2 q4 ho => ?_) (fun v2 ho => by cases ho; simp [hbv]) (fun X' cv v _ _ _ _ _ ho => by cases ho) (fun v ho => by cases ho)
              cases ho
              rw [hbv] at hb2
              cases hb2
              exact hg.val _ _ rfl X' cv q1 q2 q3 q4
            · cases h
          · rename_i v H1 hcall
            split at h
            · rename_i hpv
              cases h
              refine bareAll _ has _ _ hcall (fun X' cv v2 v2' _ _ _ _ _ ho => by cases ho) (fun v2 ho => by cases ho) (fun X' cv v q1 q2 q3 _ q4 ho => ?_) (fun v ho => by cases ho; exact hpv)
              cases ho
              exact hg.pan _ _ rfl X' cv q1 q2 q3 q4
            · cases h
          · cases h
      · cases h
  · rename_i j
    obtain ⟨l, hl, rfl⟩ := hf.yl_inv
    split at h
    · rename_i y hy
      cases hcall : y args X.H with
      | none => simp [hcall, outR] at h
      | some oh =>
        obtain ⟨o', H'⟩ := oh
        obtain ⟨fn, tmps, asg, body, hrun, hround⟩ := hY.2.2 j y l hy hl X L args cargs o' H' (Trans.refl hX) hX ha hcall
        have : (do let d ← Deferred.ofValue (.func (.yield l) #[] #[]) cargs; invoke d.target d.args : Sem Next).run P X.w = .ok (.round l fn tmps asg body) X.w := by
          simp only [Deferred.ofValue, Sem.run_bind, Sem.run_pure, Result.andThen_ok, invoke, Array.empty_append, hrun]
        rw [this]
        refine ⟨fun h => by simp [hF.depth] at h, (hF.round hround).mono fun e w' hpst => ?_⟩
        obtain ⟨X', rfl, hH, hok', t', hm⟩ := hpst
        cases o' with
        | ret v =>
          obtain ⟨cv', rfl, hv⟩ := hm
          simp only [hcall, outR, Option.some.injEq] at h
          exact hg.val v H' h.symm X' _ hok' t' hH hv
        | pan v =>
          obtain ⟨cv', rfl, hv⟩ := hm
          simp only [hcall, outR, Option.some.injEq] at h
          exact hg.pan v H' h.symm X' _ hok' t' hH hv
    · cases h
  · cases h
end
end Go.Abs
