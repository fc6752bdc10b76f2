/- All operations. -/
import Derived.Test.YtlphdiccffnckaaStp
namespace Go.Abs

section
variable {P : Program} {E : Env} {C : CF} {Y : List YF} {X : Cx} {L : List Nat} {F : Fence}

theorem builtin_append (hT : TOk P E.T) (hX : X.Ok) {f : Fl} {b0 : Nat} {tys : Array TypeId} {ty : TypeId} {consts : Array Bool} {s x : AV} {r : OR} (h : aBuiltin E f b0 X.H .append tys [s, x] = some r) {u v : Value}
    (hs : VRel X L s u) (hx : VRel X L x v) {o : Oper} {a : Act} {next : Act → World → Prop} {Q : Exit → Act → World → Prop} (hg : Goals X L a o.dst r next Q) :
    o.uponIn F 0 P a next Q ((builtin .append tys ty consts #[u, v]).run P X.w) := by
  simp only [aBuiltin] at h
  split at h
  · rename_i t t2 h0 h1
    split at h
    · rename_i hc
      cases ha : aAppend E.T (f == .own) b0 X.H t s x with
      | none => rw [ha] at h; simp [okH] at h
      | some p =>
        obtain ⟨q, H'⟩ := p
        rw [ha] at h
        simp only [okH, Option.some.injEq] at h
        obtain ⟨cv, w', hrun, X', rfl, hH, hok, t, hv⟩ := aAppend_run hT hX ha hs hx h0 h1 hc ty
        simp only [builtin, Sem.run_bind, hrun, Result.andThen_ok, Sem.run_pure]
        exact hg.val q H' h.symm X' cv hok t hH hv
    · cases h
  · cases h

theorem builtin_sound (hT : TOk P E.T) (hX : X.Ok) {f : Fl} {b0 : Nat} {b : Builtin} {tys : Array TypeId} {ty : TypeId} {consts : Array Bool} {args : List AV} {r : OR} (h : aBuiltin E f b0 X.H b tys args = some r) {cargs : Array Value}
    (ha : ARel X L args cargs) {o : Oper} {a : Act} {next : Act → World → Prop} {Q : Exit → Act → World → Prop} (hg : Goals X L a o.dst r next Q) :
    o.uponIn F 0 P a next Q ((builtin b tys ty consts cargs).run P X.w) := by
  obtain ⟨hl, hp⟩ := ha
  have one : ∀ x, args = [x] → ∃ u, cargs = #[u] ∧ VRel X L x u := by
    rintro x rfl
    obtain ⟨l⟩ := cargs
    match l, hl with
    | [u], _ => exact ⟨u, rfl, hp 0 x u rfl rfl⟩
  have two : ∀ x y, args = [x, y] → ∃ u v, cargs = #[u, v] ∧ VRel X L x u ∧ VRel X L y v := by
    rintro x y rfl
    obtain ⟨l⟩ := cargs
    match l, hl with
    | [u, v], _ => exact ⟨u, v, rfl, hp 0 x u rfl rfl, hp 1 y v rfl rfl⟩
  have okv : ∀ {q : Option AV}, Go.Abs.ok X.H q = some r → ∃ q', q = some q' ∧ r = .val q' X.H := by
    intro q hq
    cases q with
    | none => simp [Go.Abs.ok] at hq
    | some q' => simp only [Go.Abs.ok, Option.some.injEq] at hq; exact ⟨q', rfl, hq.symm⟩
  unfold aBuiltin at h
  split at h
  · rename_i x
    obtain ⟨u, rfl, hu⟩ := one x rfl
    split at h
    · rename_i t h0
      obtain ⟨q, hq, rfl⟩ := okv h
      obtain ⟨cv, hrun, hv⟩ := aLen_run hT hX hq hu h0 ty
      simp only [builtin, Sem.run_bind, hrun, Result.andThen_ok, Sem.run_pure]
      exact hg.val q X.H rfl X cv hX (Trans.refl hX) rfl hv
    · cases h
  · rename_i s x
    obtain ⟨u, v, rfl, hu, hv⟩ := two s x rfl
    exact builtin_append (P := P) (F := F) hT hX (by simp only [aBuiltin]; exact h) hu hv hg
  · rename_i s x
    obtain ⟨u, v, rfl, hu, hv⟩ := two s x rfl
    split at h
    · rename_i t h0
      cases ha : aCopy E.T b0 X.H t s x with
      | none => rw [ha] at h; simp [okH] at h
      | some p =>
        obtain ⟨q, H'⟩ := p
        rw [ha] at h
        simp only [okH, Option.some.injEq] at h
        obtain ⟨cv, w', hrun, X', rfl, hH, hok, t, hv⟩ := aCopy_run hT hX ha hu hv h0 ty
        simp only [builtin, Sem.run_bind, hrun, Result.andThen_ok, Sem.run_pure]
        exact hg.val q H' h.symm X' cv hok t hH hv
    · cases h
  · rename_i x y
    obtain ⟨u, v, rfl, hu, hv⟩ := two x y rfl
    obtain ⟨q, hq, rfl⟩ := okv h
    obtain ⟨cv, hrun, hv⟩ := aMin2_run (P := P) hq hu hv
    simp only [builtin, Builtin.min_, List.foldlM_cons, List.foldlM_nil, Sem.run_bind, hrun, Result.andThen_ok, Sem.run_pure]
    exact hg.val q X.H rfl X cv hX (Trans.refl hX) rfl hv
  · rename_i x y
    obtain ⟨u, v, rfl, hu, hv⟩ := two x y rfl
    obtain ⟨q, hq, rfl⟩ := okv h
    obtain ⟨cv, hrun, hv⟩ := aMax2_run (P := P) hq hu hv
    simp only [builtin, Builtin.max_, List.foldlM_cons, List.foldlM_nil, Sem.run_bind, hrun, Result.andThen_ok, Sem.run_pure]
    exact hg.val q X.H rfl X cv hX (Trans.refl hX) rfl hv
  · cases h

theorem aop_sound (hT : TOk P E.T) (hC : CSound P E.G C) (hF : WF F) (hX : X.Ok) (hG : GOk E.G X) (hY : YSound P X L Y) {tm : Slots} {act : Act} (hS : SRel X L tm act.tmps) {a : AOp} {b : Nat} {r : OR}
    (h : aop E C Y a b tm X.H = some r) {next : Act → World → Prop} {Q : Exit → Act → World → Prop} (hg : Goals X L act a.o.dst r next Q) : a.o.wpIn F 0 P act X.w next Q := by
  have ev := fun x => aval_rel (L := L) hG hS x
  have okv : ∀ {q : Option AV}, Go.Abs.ok X.H q = some r → ∃ q', q = some q' ∧ r = .val q' X.H := by
    intro q hq
    cases q with
    | none => simp [Go.Abs.ok] at hq
    | some q' => simp only [Go.Abs.ok, Option.some.injEq] at hq; exact ⟨q', rfl, hq.symm⟩
  have okp : ∀ {q : Option (AV × List Ent)}, okH q = some r → ∃ q' H', q = some (q', H') ∧ r = .val q' H' := by
    intro q hq
    cases q with
    | none => simp [okH] at hq
    | some q' => obtain ⟨q1, q2⟩ := q'; simp only [okH, Option.some.injEq] at hq; exact ⟨q1, q2, rfl, hq.symm⟩
  -- the result is there, the world has not turned
  have fin : ∀ {q : AV} {cv : Value}, r = .val q X.H → VRel X L q cv → a.o.uponIn F 0 P act next Q (.ok (.value cv) X.w) := fun hr hv => hg.val _ _ hr X _ hX (Trans.refl hX) rfl hv
  have finS : ∀ {q : AV} {H' : List Ent} {cv : Value} {w' : World}, r = .val q H' → Step X L q H' cv w' → a.o.uponIn F 0 P act next Q (.ok (.value cv) w') := by
    rintro q H' cv w' hr ⟨X', rfl, hH, hok, t, hv⟩
    exact hg.val q H' hr X' cv hok t hH hv
  unfold aop at h
  cases hop : a.o.op <;> simp only [aopW, hop] at h <;> (try (cases h; done)) <;> refine wpIn_of_exec hF (by rw [hop]; simp) ?_ <;> simp only [execOp, hop]
  case move x => cases h; simp only [Sem.run_pure]; exact fin rfl (ev _)
  case assign x => cases h; simp only [Sem.run_pure]; exact fin rfl (ev _)
  case pick c x y =>
    split at h
    · rename_i t hc
      cases h
      have := ev c
      rw [hc] at this
      rw [this.sc_inv]
      simp only [asBool, Sem.run_bind, Sem.run_pure, Result.andThen_ok]
      cases t
      · exact fin rfl (ev y)
      · exact fin rfl (ev x)
    · cases h
  case alloc t =>
    split at h
    · rename_i zs hz
      cases h
      obtain ⟨w', hrun, hst⟩ := alloc_run (L := L) hT hX hz
      simp only [Sem.run_bind, hrun, Result.andThen_ok, Sem.run_pure]
      exact finS rfl hst
    · cases h
  case box t x =>
    split at h
    · rename_i n g hz
      split at h
      · rename_i hc
        cases h
        obtain ⟨w', hrun, hst⟩ := box_run (P := P) hX hz (ev x) hc.2.2.1 hc.2.2.2
        simp only [Sem.run_bind, hrun, Result.andThen_ok, Sem.run_pure]
        exact finS rfl hst
      · cases h
    · cases h
  case build t parts =>
    obtain ⟨q, hq, rfl⟩ := okv h
    obtain ⟨h1, h2⟩ := parts_rel hG hS parts
    obtain ⟨cv, hrun, hv⟩ := aBuild_run hT hq h1 h2
    simp only [Sem.run_bind, hrun, Result.andThen_ok, Sem.run_pure]
    exact fin rfl hv
  case buildSlice t len parts =>
    split at h
    · cases h
    · rename_i zs hez
      split at h
      · cases h
      · rename_i z xs hsl
        obtain ⟨h1, h2⟩ := parts_rel hG hS parts
        obtain ⟨cv, w', hrun, hst⟩ := buildSlice_run hT hX hez hsl h1 h2
        simp only [Sem.run_bind, hrun, Result.andThen_ok, Sem.run_pure]
        split at h
        · rename_i hown
          cases h
          rw [if_pos hown] at hst
          exact finS rfl hst
        · rename_i hown
          cases h
          rw [if_neg hown] at hst
          exact finS rfl hst
  case load t x =>
    split at h
    · cases h
    obtain ⟨q, hq, rfl⟩ := okv h
    obtain ⟨cv, hrun, hv⟩ := aLoad_run hT hX hq (ev _)
    simp only [Sem.run_bind, hrun, Result.andThen_ok, Sem.run_pure]
    exact fin rfl hv
  case store t x y =>
    split at h
    · rename_i H' hst
      cases h
      obtain ⟨w', hrun, X', rfl, hH, hok, t⟩ := aStore_run hT hX hst (ev _) (ev _)
      simp only [Sem.run_bind, hrun, Result.andThen_ok, Sem.run_pure]
      exact hg.val _ _ rfl X' undef hok t hH (.frz (.und _))
    · cases h
  case nilCheck x =>
    split at h
    · rename_i hal
      cases h
      obtain ⟨b', o', hv, _⟩ := alive_addr hX hal (ev x)
      rw [hv]
      simp only [Sem.run_pure]
      exact fin rfl (hv ▸ ev x)
    · cases h
  case binOp op t x y yt =>
    obtain ⟨q, hq, rfl⟩ := okv h
    obtain ⟨cv, hrun, hv⟩ := aBin_run hT hq (ev x) (ev y) x y
    rw [Sem.run_bind, hrun]
    exact fin rfl hv
  case unOp op t x =>
    obtain ⟨q, hq, rfl⟩ := okv h
    obtain ⟨cv, hrun, hv⟩ := aUn_run (P := P) hq (ev _)
    simp only [Sem.run_bind, hrun, Result.andThen_ok, Sem.run_pure]
    exact fin rfl hv
  case convert src dst x =>
    obtain ⟨q, hq, rfl⟩ := okv h
    obtain ⟨cv, hrun, hv⟩ := aConv_run hT hq (ev _)
    simp only [Sem.run_bind, hrun, Result.andThen_ok, Sem.run_pure]
    exact fin rfl hv
  case makeFunc fn first captured =>
    split at h
    · rename_i f
      split at h
      · rename_i hc
        cases h
        have : first = #[] := Array.eq_empty_of_size_eq_zero hc
        subst this
        simp only [Instr.makeFunc, Sem.run_bind, Sem.run_pure, Result.andThen_ok, List.map_toArray, List.map_nil]
        obtain ⟨h1, h2⟩ := avals_rel (L := L) hG hS captured
        exact fin rfl (.fn h1 h2)
      · cases h
    · cases h
  case makeSlice t l c =>
    obtain ⟨q, H', hq, rfl⟩ := okp h
    obtain ⟨cv, w', hrun, hst⟩ := aMake_run hT hX hq (ev _) (ev _)
    simp only [Sem.run_bind, hrun, Result.andThen_ok, Sem.run_pure]
    exact finS rfl hst
  case slice t x lo hi mx =>
    obtain ⟨q, hq, rfl⟩ := okv h
    obtain ⟨cv, hrun, hv⟩ := aSlice_run hT hX hq (ev _) (oval_rel hG hS _) (oval_rel hG hS _) (oval_rel hG hS _)
    simp only [Sem.run_bind, hrun, Result.andThen_ok, Sem.run_pure]
    exact fin rfl hv
  case fieldAddr t x f =>
    split at h
    · cases h
    obtain ⟨q, hq, rfl⟩ := okv h
    obtain ⟨cv, hrun, hv⟩ := aField_run hT hX hq (ev _)
    simp only [Sem.run_bind, hrun, Result.andThen_ok, Sem.run_pure]
    exact fin rfl hv
  case field t x f =>
    obtain ⟨q, hq, rfl⟩ := okv h
    obtain ⟨cv, hrun, hv⟩ := aFieldVal_run hT hq (ev _)
    simp only [Sem.run_bind, hrun, Result.andThen_ok, Sem.run_pure]
    exact fin rfl hv
  case indexAddr t x ix =>
    obtain ⟨q, hq, rfl⟩ := okv h
    obtain ⟨cv, hrun, hv⟩ := aIndexAddr_run hT hX hq (ev _) (ev _)
    simp only [Sem.run_bind, hrun, Result.andThen_ok, Sem.run_pure]
    exact fin rfl hv
  case index t x ix =>
    obtain ⟨q, hq, rfl⟩ := okv h
    obtain ⟨cv, hrun, hv⟩ := aIndex_run hT hq (ev _) (ev _)
    simp only [Sem.run_bind, hrun, Result.andThen_ok, Sem.run_pure]
    exact fin rfl hv
  case extract x i =>
    split at h
    · rename_i vs hvs
      obtain ⟨q, hq, rfl⟩ := okv h
      have hx := ev x
      rw [hvs] at hx
      obtain ⟨us, hus, hl, hp⟩ := hx.tup_inv
      rw [hus]
      have hi := (List.getElem?_eq_some_iff.1 hq).1
      have hu : us[i]? = some (us[i]'(by omega)) := Array.getElem?_eq_getElem _
      simp only [Instr.extract, hu, Sem.run_bind, Sem.run_pure, Result.andThen_ok]
      exact fin rfl (hp i q _ hq hu)
    · cases h
  case makeInterface t x =>
    split at h
    · rename_i hi
      cases h
      obtain ⟨k, hk⟩ := Option.isSome_iff_exists.1 hi
      have hrun : (Instr.makeInterface t (act.eval x)).run P X.w = .ok (.iface t (act.eval x)) X.w := by
        have hu := hT.int _ _ hk
        exact run_makeInterface X.w t _ (by unfold Program.concrete; rw [hu])
      simp only [Sem.run_bind, hrun, Result.andThen_ok, Sem.run_pure]
      exact fin rfl (.ifc (ev x))
    · cases h
  case panic x =>
    split at h
    · rename_i t v hx
      cases h
      have hv := ev x
      rw [hx] at hv
      obtain ⟨u, hu, hr⟩ := hv.ifc_inv
      rw [hu]
      simp only [Instr.panic, Sem.run_bind, run_goPanic, Result.andThen_halt]
      exact hg.pan _ _ rfl X _ hX (Trans.refl hX) rfl (.ifc hr)
    · cases h
  case call c =>
    split at h
    · rename_i f hcal
      have hrun : (do let d ← resolve act.eval c a.o.type; invoke d.target d.args : Sem Next) = (do let d ← Deferred.ofValue (act.eval f) (c.args.map act.eval); invoke d.target d.args : Sem Next) := by
        simp only [resolve, hcal]
      rw [hrun]
      exact callFn_sound hC hF hX hG hY h (ev f) (avals_rel hG hS c.args) hg
    · rename_i bi hcal
      simp only [resolve, hcal, Sem.run_bind, Sem.run_pure, Result.andThen_ok, invoke]
      exact builtin_sound hT hX h (avals_rel hG hS c.args) hg
    · cases h
end
end Go.Abs
