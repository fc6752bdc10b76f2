/- All code; all functions. -/
import Derived.Test.YtlphdiccffnckaaCtd
namespace Go.Abs

/-- The written form of code is in order. -/
def AC.fine (nt : Nat) : AC → Bool
  | .skip | .exit _ | .ret => true
  | .region _ ops d => ops.all (fun a => a.fine nt ops) && (!d || drawOk ops)
  | .seq a b => a.fine nt && b.fine nt
  | .cond _ a b => a.fine nt && b.fine nt
  | .block _ a => a.fine nt
  | .loop a => a.fine nt
  | .rangeFunc _ ps a b => ps.all (fun p => decide (p < nt)) && (a.fine nt && b.fine nt)
  | .ghost _ a => a.fine nt

section
variable {P : Program} {E : Env} {C : CF} {Y : List YF} {L : List Nat} {F : Fence} {nt : Nat} {X0 : Cx}

theorem Onward.then {S : St → Act → Cx → Prop} {ex : Ex} {st : St} {K : Act → World → Prop} {Q : Exit → Act → World → Prop} (hn : ex = .normal → ∀ a' X', S st a' X' → K a' X'.w) (h : ex ≠ .normal → Onward L S ex st Q) : Onward L S ex st (Exit.then K Q) := by
  cases ex with
  | normal => exact hn rfl
  | exit id => exact h (by simp)
  | ret => exact h (by simp)
  | pan v => exact h (by simp)

theorem least {p : Nat → Prop} (h : ∃ m, p m) : ∃ m, p m ∧ ∀ k, p k → m ≤ k := by
  obtain ⟨m, hm⟩ := h
  induction m using Nat.strongRecOn with
  | _ m ih =>
    by_cases hk : ∃ k, k < m ∧ p k
    · obtain ⟨k, h1, h2⟩ := hk
      exact ih k h1 h2
    · exact ⟨m, hm, fun k hp => Nat.le_of_not_lt fun hlt => hk ⟨k, hlt, hp⟩⟩

theorem loop_sound {D : St → Option (Ex × St)} {c : Code} (hD : DSound P E C Y L nt D c) (n : Nat) : DSound P E C Y L nt (loopIter n D) (.loop c) := by
  intro F X0 B st ex st' a X Q hS h hon
  let J : Nat → Act → World → Prop := fun m a w => ∃ st1 X1, X1.w = w ∧ StRel X0 L nt st1 a X1 ∧ loopIter m D st1 = some (ex, st')
  have hμ : ∃ μ : Act → World → Nat, ∀ a w, (∃ m, J m a w) → J (μ a w) a w ∧ ∀ k, J k a w → μ a w ≤ k := by
    have : ∀ a w, ∃ m, (∃ m, J m a w) → J m a w ∧ ∀ k, J k a w → m ≤ k := fun a w => by
      by_cases h : ∃ m, J m a w
      · obtain ⟨m, h1, h2⟩ := least h
        exact ⟨m, fun _ => ⟨h1, h2⟩⟩
      · exact ⟨0, fun h' => absurd h' h⟩
    exact ⟨fun a w => (this a w).choose, fun a w => (this a w).choose_spec⟩
  obtain ⟨μ, hμ⟩ := hμ
  refine wpIn_loop (fun a w => ∃ m, J m a w) μ ⟨n, st, X, rfl, hS, h⟩ fun a1 w1 hJ => ?_
  obtain ⟨⟨st1, X1, rfl, hS1, h1⟩, hmin⟩ := hμ a1 w1 hJ
  generalize hm : μ a1 X1.w = m at h1 hmin ⊢
  cases m with
  | zero => simp [loopIter] at h1
  | succ m =>
    simp only [loopIter] at h1
    split at h1
    · rename_i st2 h2
      refine hD F X0 B st1 .normal st2 a1 X1 _ hS1 h2 (Onward.then (fun _ a' X' hS' => ?_) (fun h => absurd rfl h))
      have hJ' : J m a' X'.w := ⟨st2, X', rfl, hS', h1⟩
      exact ⟨⟨m, hJ'⟩, Nat.lt_succ_of_le ((hμ a' X'.w ⟨m, hJ'⟩).2 m hJ')⟩
    · rename_i hnot
      refine hD F X0 B st1 ex st' a1 X1 _ hS1 h1 (Onward.then (fun e => ?_) (fun _ => hon))
      subst e
      exact absurd h1 (hnot st')

theorem den_sound (hmix : P.follows .mixedOrders = true) (hC : CRef C) (hY : YRef Y) (n : Nat) : ∀ (ac : AC), ac.fine nt = true → DSound P E C Y L nt (den E C Y (loopIter n) ac) ac.erase
  | .skip, _ => fun F X0 B st ex st' a X Q hS h hon => by cases h; exact wpIn_skip (hon a X hS)
  | .exit id, _ => fun F X0 B st ex st' a X Q hS h hon => by cases h; exact wpIn_exit (hon a X hS)
  | .ret, _ => fun F X0 B st ex st' a X Q hS h hon => by cases h; exact wpIn_ret (hon a X hS)
  | .region id ops d, hf => fun F X0 B st ex st' a X Q hS h hon => by
    simp only [AC.fine, Bool.and_eq_true, List.all_eq_true] at hf
    simp only [den] at h
    cases d with
    | false =>
      refine region_sound B hf.1 hS ?_ hon
      split at h
      · rename_i h1; rw [h1, ← h]
      · rename_i h1; rw [h1]; simpa using h
      · cases h
    | true =>
      split at h
      · rename_i h1
        cases h
        exact draw_sound hmix B hf.1 (by simpa using hf.2) hS h1 hon
      · simp at h
      · cases h
  | .seq x y, hf => fun F X0 B st ex st' a X Q hS h hon => by
    simp only [AC.fine, Bool.and_eq_true] at hf
    simp only [den] at h
    refine wpIn_seq ?_
    split at h
    · rename_i st1 h1
      exact den_sound hmix hC hY n x hf.1 F X0 B st .normal st1 a X _ hS h1 (Onward.then (fun _ a' X' hS' => den_sound hmix hC hY n y hf.2 F X0 B st1 ex st' a' X' Q hS' h hon) (fun h => absurd rfl h))
    · rename_i hnot
      refine den_sound hmix hC hY n x hf.1 F X0 B st ex st' a X _ hS h (Onward.then (fun e => ?_) (fun _ => hon))
      subst e
      exact absurd h (hnot st')
  | .cond c x y, hf => fun F X0 B st ex st' a X Q hS h hon => by
    simp only [AC.fine, Bool.and_eq_true] at hf
    simp only [den] at h
    split at h
    · rename_i t hc
      have hv := aval_rel (B.gok.trans hS.trans B.ok0) hS.slots c
      rw [hc] at hv
      refine wpIn_cond_split hv.sc_inv (fun ht => ?_) (fun ht => ?_)
      · rw [if_pos ht] at h
        exact den_sound hmix hC hY n x hf.1 F X0 B st ex st' a X Q hS h hon
      · rw [ht] at h
        exact den_sound hmix hC hY n y hf.2 F X0 B st ex st' a X Q hS (by simpa using h) hon
    · cases h
  | .block id x, hf => fun F X0 B st ex st' a X Q hS h hon => by
    simp only [AC.fine] at hf
    simp only [den] at h
    refine wpIn_block ?_
    split at h
    · rename_i id' st1 h1
      refine den_sound hmix hC hY n x hf F X0 B st (.exit id') st1 a X _ hS h1 fun a' X' hS' => ?_
      simp only [Exit.inBlock]
      split at h
      · rename_i he
        cases h
        rw [if_pos he]
        exact hon a' X' hS'
      · rename_i he
        cases h
        rw [if_neg he]
        exact hon a' X' hS'
    · rename_i hnot
      refine den_sound hmix hC hY n x hf F X0 B st ex st' a X _ hS h ?_
      cases ex with
      | normal => exact hon
      | exit id' => exact absurd h (hnot id' st')
      | ret => exact hon
      | pan v => exact hon
  | .loop x, hf => by
    simp only [AC.fine] at hf
    exact fun F X0 B st ex st' a X Q hS h hon => loop_sound (den_sound hmix hC hY n x hf) n F X0 B st ex st' a X Q hS h hon
  | .rangeFunc f ps x y, hf => fun F X0 B st ex st' a X Q hS h hon => by
    simp only [AC.fine, Bool.and_eq_true] at hf
    exact rangeFn_sound (den_sound hmix hC hY n x hf.2.1) (den_sound hmix hC hY n y hf.2.2) (den_ref hC hY (fun D hD => loopIter_ref hD n) x) (den_ref hC hY (fun D hD => loopIter_ref hD n) y) hf.1 B hS h hon
  | .ghost g x, hf => fun F X0 B st ex st' a X Q hS h hon => by
    simp only [AC.fine] at hf
    simp only [den] at h
    split at h
    · rename_i st1 h1
      obtain ⟨X', hw, hS'⟩ := ghost_sound B.ok0 hS h1
      have := den_sound hmix hC hY n x hf F X0 B st1 ex st' a X' Q hS' h hon
      rw [hw] at this
      exact this
    · cases h

/-- The table of functions. -/
structure FOk (P : Program) (F : Nat → Option AFn) : Prop where
  fn : ∀ f A, F f = some A → ∃ fn, P.funcs[f]? = some fn ∧ (fn.name == "runtime.NumGoroutine") = false ∧ fn.body = some A.ac.erase ∧ A.ntmps ≤ fn.ntmps ∧ fn.results = A.results.toArray ∧ A.ac.fine A.ntmps = true

theorem run_callFunc_enter {f : Nat} {fn : Func} (hf : P.funcs[f]? = some fn) (hn : (fn.name == "runtime.NumGoroutine") = false) {c : Code} (hb : fn.body = some c) (w : World) (vs : Array Value) : (callFunc f vs).run P w = .ok (.enter f vs) w := by
  unfold callFunc
  simp only [Sem.run_bind, run_program, Result.andThen_ok, hf, hn, hb, Option.isNone_some, Bool.false_eq_true, if_false, Sem.run_pure]

/-- What a function hands back, one by one. -/
theorem results_one {T : TT} (hT : TOk P T) {X : Cx} (hX : X.Ok) {tm : Slots} {tmps : Array Value} (hS : SRel X L tm tmps) : ∀ {rs : List ResultVar} {vs : List AV}, results T tm X.H rs = some vs →
    ∃ us : List Value, (rs.mapM fun | ResultVar.tmp t => pure (tmps.getD t undef) | .cell a t => do loadVar t (← asAddr (tmps.getD a undef)) : Sem (List Value)).run P X.w = .ok us X.w ∧ us.length = vs.length ∧ ∀ (i : Nat) a v, vs[i]? = some a → us[i]? = some v → VRel X L a v
  | [], vs, h => by
    cases h
    exact ⟨[], rfl, rfl, fun i a v h => by simp at h⟩
  | .tmp t :: rs, vs, h => by
    simp only [results] at h
    obtain ⟨vs', h1, rfl⟩ := Option.map_eq_some_iff.1 h
    obtain ⟨us, h2, h3, h4⟩ := results_one hT hX hS h1
    refine ⟨tmps.getD t undef :: us, ?_, by simp [h3], fun i a v ha hv => ?_⟩
    · simp only [List.mapM_cons, Sem.run_bind, Sem.run_pure, Result.andThen_ok]
      rw [h2]
      rfl
    · cases i with
      | zero =>
        simp only [List.getElem?_cons_zero, Option.some.injEq] at ha hv
        subst ha
        subst hv
        exact hS t
      | succ i => exact h4 i a v (by simpa using ha) (by simpa using hv)
  | .cell ad t :: rs, vs, h => by
    simp only [results] at h
    obtain ⟨x, h0, h⟩ := Option.bind_eq_some_iff.1 h
    obtain ⟨vs', h1, rfl⟩ := Option.map_eq_some_iff.1 h
    obtain ⟨us, h2, h3, h4⟩ := results_one hT hX hS h1
    obtain ⟨u, h5, h6⟩ := aLoad_run hT hX h0 (hS ad)
    have h7 : (do loadVar t (← asAddr (tmps.getD ad undef)) : Sem Value).run P X.w = .ok u X.w := by
      generalize tmps.getD ad undef = v at h5
      unfold Instr.loadAt Instr.sureAddr at h5
      split at h5
      · exact h5
      · simp only [Sem.run_bind] at h5
        exact absurd h5 (by simp [stuck, Sem.run, Result.andThen])
    refine ⟨u :: us, ?_, by simp [h3], fun i a v ha hv => ?_⟩
    · simp only [List.mapM_cons, Sem.run_bind]
      simp only [Sem.run_bind] at h7
      rw [h7]
      simp only [Result.andThen_ok, h2, Sem.run_pure]
    · cases i with
      | zero => simp at ha hv; subst ha; subst hv; exact h6
      | succ i => exact h4 i a v (by simpa using ha) (by simpa using hv)

theorem results_run {T : TT} (hT : TOk P T) {X : Cx} (hX : X.Ok) {tm : Slots} {tmps : Array Value} (hS : SRel X L tm tmps) {fn : Func} {rs : List ResultVar} (hr : fn.results = rs.toArray) {vs : List AV} (h : Go.Abs.results T tm X.H rs = some vs) :
    ∃ u, (Go.results fn tmps).run P X.w = .ok u X.w ∧ VRel X L (pack vs) u := by
  obtain ⟨us, h1, h2, h3⟩ := results_one hT hX hS h
  have hrun : (Go.results fn tmps).run P X.w = .ok (if h : us.toArray.size = 1 then us.toArray[0] else .tuple us.toArray) X.w := by
    unfold Go.results
    rw [hr, Array.mapM_eq_mapM_toList]
    simp only [Sem.run_bind, map_eq_pure_bind, Sem.run_pure]
    exact congrArg (fun r : Result (List Value) => (r.andThen fun a w' => Result.ok a.toArray w').andThen fun a w' => Result.ok (if h : a.size = 1 then a[0] else Value.tuple a) w') h1
  refine ⟨_, hrun, ?_⟩
  rcases vs with _ | ⟨a, _ | ⟨b, vs⟩⟩ <;> rcases us with _ | ⟨u, _ | ⟨v, us⟩⟩ <;> simp only [List.length_nil, List.length_cons] at h2 <;> try omega
  · exact .tup rfl fun i c v h => by simp at h
  · exact h3 0 a u rfl rfl
  · rw [dif_neg (by simp)]
    exact .tup (by simpa using h2) fun i c x hc hx => h3 i c x hc (by simpa using hx)

/-- The loops' marks are taken up: nothing turns that anybody sees. -/
theorem FRel.recell {w w' : World} {M : Nat → Prop} (hs : w.heap.size ≤ w'.heap.size) (hk : ∀ b o, ¬ M b → w'.cell? ⟨b, o, none⟩ = w.cell? ⟨b, o, none⟩) {a : AV} {v : Value} (h : FRel w M a v) : FRel w' M a v := by
  induction h with
  | und v => exact .und v
  | sc v => exact .sc v
  | agg hl h1 _ ih => exact .agg hl h1 ih
  | tup hl _ ih => exact .tup hl ih
  | fn hl _ ih => exact .fn hl ih
  | ifc _ ih => exact .ifc ih
  | slE hf => exact .slE hf
  | nsl hn => exact .nsl hn
  | sl g hn hc hf hsp hb hM hz hg h1 _ ih =>
    exact .sl g hn hc hf hsp (Nat.lt_of_lt_of_le hb hs) hM hz (fun i j x c hx hc => by rw [hk _ _ hM]; exact hg i j x c hx hc) h1 ih
  | fp g hsp hb hM hg h1 _ ih =>
    exact .fp g hsp (Nat.lt_of_lt_of_le hb hs) hM (fun j c hc => by rw [hk _ _ hM]; exact hg j c hc) h1 ih

theorem VRel.recell {X : Cx} {w' : World} (hs : X.w.heap.size ≤ w'.heap.size) (hk : ∀ b o, ¬ X.M b → w'.cell? ⟨b, o, none⟩ = X.w.cell? ⟨b, o, none⟩) {L : List Nat} {a : AV} {v : Value} (h : VRel X L a v) : VRel (X.at w') L a v := by
  induction h with
  | frz h => exact .frz (h.recell hs hk)
  | agg hl h1 _ ih => exact .agg hl h1 ih
  | tup hl _ ih => exact .tup hl ih
  | fn hl _ ih => exact .fn hl ih
  | ifc _ ih => exact .ifc ih
  | yl h => exact .yl h
  | bp h1 hk h => exact .bp h1 hk h
  | bxs h1 hk h => exact .bxs h1 hk h
  | os h1 hk hv h => exact .os h1 hk hv h
  | op h1 hk hv h => exact .op h1 hk hv h

/-- A block of deferred calls is shut. -/
theorem shut_ok {X : Cx} (hX : X.Ok) {r : Nat} (hr : X.w.heap[r]? = some (.deferred (some []))) {X0 : Cx} (t : Trans X0 X) (h0 : X0.w.heap.size ≤ r) :
    (X.at (X.w.putObj r (.deferred none))).Ok ∧ Trans X0 (X.at (X.w.putObj r (.deferred none))) ∧ ∀ (L : List Nat) a v, VRel X L a v → VRel (X.at (X.w.putObj r (.deferred none))) L a v := by
  have hlt := (Array.getElem?_eq_some_iff.1 hr).1
  have hs : X.w.heap.size ≤ (X.w.putObj r (.deferred none)).heap.size := by simp
  have hother : ∀ b, b ≠ r → (X.w.putObj r (.deferred none)).heap[b]? = X.w.heap[b]? := fun b hb => World.putObj_heap_other hb
  have hcell : ∀ b o, (X.w.putObj r (.deferred none)).cell? ⟨b, o, none⟩ = X.w.cell? ⟨b, o, none⟩ := fun b o => by
    by_cases hb : b = r
    · subst hb
      simp only [World.cell?, World.putObj_heap_same hlt, hr]
    · simp only [World.cell?, hother b hb]
  have hv : ∀ (L : List Nat) a v, VRel X L a v → VRel (X.at (X.w.putObj r (.deferred none))) L a v := fun L a v h => h.recell hs fun b o _ => hcell b o
  have hnh : ∀ b, X.holds b → b ≠ r := fun b hb e => hX.notDeferred hr (e ▸ hb)
  refine ⟨⟨hX.len, fun b hm => Nat.lt_of_lt_of_le (hX.bnd b hm) hs, fun k h e hH hE => ?_, hX.apart⟩, ⟨t.later.trans ⟨hs, rfl, rfl⟩, fun b hb hn => ?_, t.mKeep, t.mNew, t.held, t.turn⟩, hv⟩
  · have hre := hX.ent k h e hH hE
    have hb : ∀ b, e.blk = some b → (X.w.putObj r (.deferred none)).heap[b]? = X.w.heap[b]? := fun b hb => hother b (hnh b ⟨k, e, hE, hb⟩)
    cases h <;> cases e <;> simp only [EntRel] at hre ⊢
    · obtain ⟨hm, arr, T, h1, h2, h4, h3⟩ := hre
      exact ⟨hm, arr, T, by show (X.w.putObj r (.deferred none)).heap[_]? = _; rw [hb _ rfl]; exact h1, h2, h4, fun j c v hc hvv => hv _ _ _ (h3 j c v hc hvv)⟩
    · obtain ⟨hz, hl, h⟩ := hre
      refine ⟨hz, hl, ?_⟩
      rcases h with h | ⟨b, cap, arr, T, rfl, hm, h3, h4, h5, h7, h6⟩
      · exact .inl h
      · refine .inr ⟨b, cap, arr, T, rfl, hm, by show (X.w.putObj r (.deferred none)).heap[_]? = _; rw [hb _ rfl]; exact h3, h4, h5, h7, fun i j x c hx hc => ?_⟩
        obtain ⟨v, h8, h9⟩ := h6 i j x c hx hc
        exact ⟨v, h8, hv _ _ _ h9⟩
    · exact ⟨hre.1, by show (X.w.putObj r (.deferred none)).heap[_]? = _; rw [hb _ rfl]; exact hre.2⟩
  · show (X.w.putObj r (.deferred none)).heap[b]? = _
    rw [hother b (by omega)]
    exact t.same b hb hn

/-- The marks are taken up, one behind the other. -/
theorem leaves_marks {fn : Func} {tmps : Array Value} {R : Ending → World → Prop} {u : FrameMode} (hu : u ≠ .run) {X0 : Cx} {K : Cx → Prop} (hK : ∀ X r, K X → X.w.heap[r]? = some (.deferred (some [])) → X0.w.heap.size ≤ r → K (X.at (X.w.putObj r (.deferred none))))
    (hR : ∀ X, K X → LeavesInM Fence.wide 0 P fn tmps R [] u X.w) : ∀ (rs : List Nat) (X : Cx), K X → rs.Nodup → (∀ r ∈ rs, X0.w.heap.size ≤ r ∧ X.w.heap[r]? = some (.deferred (some []))) → LeavesInM Fence.wide 0 P fn tmps R (rs.map mark) u X.w
  | [], X, hX, _, _ => hR X hX
  | r :: rs, X, hX, hn, hr => by
    obtain ⟨h1, h2⟩ := hr r (List.mem_cons_self ..)
    obtain ⟨hnr, hn'⟩ := List.nodup_cons.1 hn
    refine ⟨hu, .inl ⟨r, _, rfl, run_takeDeferred h2, ?_⟩⟩
    refine leaves_marks hu hK hR rs (X.at (X.w.putObj r (.deferred none))) (hK X r hX h2 h1) hn' fun s hs => ?_
    obtain ⟨h3, h4⟩ := hr s (List.mem_cons_of_mem _ hs)
    refine ⟨h3, ?_⟩
    show (X.w.putObj r (.deferred none)).heap[s]? = _
    rw [World.putObj_heap_other (show s ≠ r from fun e => hnr (by rw [← e]; exact hs))]
    exact h4

theorem init_get : ∀ (args : List AV) (i t : Nat), (Slots.init i args).get t = if i ≤ t then (args[t - i]?).getD .und else .und
  | [], i, t => by simp [Slots.init, Slots.get]
  | v :: vs, i, t => by
    by_cases h : i = t
    · subst h
      simp [Slots.init, Slots.get]
    · simp only [Slots.init, Slots.get, beq_ne h, cond_false, init_get vs (i + 1) t]
      by_cases hl : i ≤ t
      · have h1 : i + 1 ≤ t := by omega
        rw [if_pos hl, if_pos h1, show t - i = (t - (i + 1)) + 1 from by omega]
        simp
      · rw [if_neg hl, if_neg (by omega)]

theorem init_rel {X : Cx} {args : List AV} {cargs : Array Value} (ha : ARel X L args cargs) (n : Nat) : SRel X L (Slots.init 0 args) (cargs ++ Array.replicate n undef) := by
  intro t
  rw [init_get, if_pos (Nat.zero_le _)]
  by_cases ht : t < args.length
  · have h1 : args[t]? = some args[t] := List.getElem?_eq_getElem ht
    have h2 : cargs[t]? = some (cargs[t]'(by rw [ha.1]; exact ht)) := Array.getElem?_eq_getElem _
    have := ha.2 t _ _ h1 h2
    simp only [Nat.sub_zero, h1, Option.getD_some, Array.getD_eq_getD_getElem?]
    rw [Array.getElem?_append_left (by rw [ha.1]; exact ht), h2]
    exact this
  · simp only [Nat.sub_zero, List.getElem?_eq_none (Nat.le_of_not_lt ht), Option.getD_none]
    exact .frz (.und _)

/-- What holds of the machine while the marks are taken up. -/
structure Out1 (X : Cx) (L : List Nat) (st : St) (tmps : Array Value) (X2 : Cx) : Prop where
  ok : X2.Ok
  trans : Trans X X2
  hH : X2.H = st.H
  slots : SRel X2 L st.tm tmps

theorem callN_sound (hT : TOk P E.T) {F : Nat → Option AFn} (hF : FOk P F) (hmix : P.follows .mixedOrders = true) : ∀ n, CSound P E.G (callN E F n)
  | 0 => fun f args H Y o H' h => by simp [callN] at h
  | n + 1 => fun f args H Y o H' h => by
    simp only [callN] at h
    split at h
    · cases h
    · rename_i A hA
      obtain ⟨fn, hf, hname, hb, hnt, hres, hfine⟩ := hF.fn f A hA
      refine ⟨fun w vs => run_callFunc_enter hf hname hb w vs, fun X L cargs hXH hX hG ha hY => ?_⟩
      subst hXH
      refine callsIn_of_wp_marks hf hb trivial ?_
      have B : Base P E (callN E F n) Y L Fence.wide X := ⟨hT, callN_sound hT hF hmix n, callN_ref n, .inl rfl, hX, hG, hY, fun l hl => by cases hl⟩
      have hS0 : StRel X L A.ntmps { tm := Slots.init 0 args, H := X.H, b := X.H.length } { tmps := cargs ++ Array.replicate (fn.ntmps - cargs.size) undef, defers := [] } X :=
        ⟨hX, Trans.refl hX, rfl, init_rel ha _, by simp; omega, hX.len.symm, .refl _ _, ⟨[], rfl, List.nodup_nil, fun r hr => by cases hr⟩⟩
      -- out of a state that is left
      have fin : ∀ st1 a1 X1 (mode : FrameMode), StRel X L A.ntmps st1 a1 X1 → mode ≠ .run → ∀ K : Cx → Prop, K X1 → (∀ X r, K X → (∀ L a v, VRel X L a v → VRel (X.at (X.w.putObj r (.deferred none))) L a v) → K (X.at (X.w.putObj r (.deferred none)))) →
          (∀ X2, Out1 X L st1 a1.tmps X2 → K X2 → LeavesInM Fence.wide 0 P fn a1.tmps (OutPost X L o H') [] mode X2.w) → LeavesInM Fence.wide 0 P fn a1.tmps (OutPost X L o H') a1.defers mode X1.w := by
        intro st1 a1 X1 mode hS1 hmode K hK1 hK hR
        obtain ⟨rs, h1, h2, h3⟩ := hS1.defs
        rw [h1]
        refine leaves_marks (X0 := X) hmode (K := fun X2 => Out1 X L st1 a1.tmps X2 ∧ K X2) (fun X2 r h hr hl => ?_) (fun X2 h => hR X2 h.1 h.2) rs X1 ⟨⟨hS1.ok, hS1.trans, hS1.hH, hS1.slots⟩, hK1⟩ h2 h3
        obtain ⟨s1, s2, s3⟩ := shut_ok h.1.ok hr h.1.trans hl
        exact ⟨⟨s1, s2, h.1.hH, fun t => s3 L _ _ (h.1.slots t)⟩, hK X2 r h.2 s3⟩
      have hcut : ∀ st1 a1 X1 X2, StRel X L A.ntmps st1 a1 X1 → Out1 X L st1 a1.tmps X2 → (X2.cut X.H.length).Ok ∧ Trans X (X2.cut X.H.length) ∧ (X2.cut X.H.length).H = st1.H.take X.H.length := by
        intro st1 a1 X1 X2 hS1 hO
        refine ⟨Cx.cut_ok hO.ok fun k e hk he => ?_, hO.trans.cut (by rw [hX.len]; exact Nat.le_refl _), by simp [Cx.cut, hO.hH]⟩
        rw [hO.hH, ← hS1.hH] at he
        have := hS1.b
        have := hX.len
        exact hS1.old hX (by omega) he (by omega)
      have ret : ∀ st1 a1 X1, StRel X L A.ntmps st1 a1 X1 → leave E.T A X.H.length st1 = some (o, H') → LeavesInM Fence.wide 0 P fn a1.tmps (OutPost X L o H') a1.defers .returning X1.w := by
        intro st1 a1 X1 hS1 hl
        refine fin st1 a1 X1 .returning hS1 (by simp) (fun _ => True) trivial (fun _ _ _ _ => trivial) fun X2 hO _ => ?_
        unfold leave at hl
        split at hl
        · cases hl
        · rename_i vs hvs
          rw [← hO.hH] at hvs
          obtain ⟨u, hrun, hv⟩ := results_run hT hO.ok hO.slots hres hvs
          refine ⟨u, hrun, ?_⟩
          split at hl
          · cases hl
            exact ⟨X2, rfl, hO.hH, hO.ok, hO.trans, u, rfl, hv⟩
          · split at hl
            · rename_i hp
              cases hl
              obtain ⟨c1, c2, c3⟩ := hcut st1 a1 X1 X2 hS1 hO
              exact ⟨X2.cut X.H.length, rfl, c3, c1, c2, u, rfl, .frz (hv.pure hp).cut⟩
            · split at hl
              · rename_i v hfr
                cases hl
                rw [← hO.hH] at hfr
                obtain ⟨c1, c2, c3⟩ := hcut st1 a1 X1 X2 hS1 hO
                exact ⟨X2.cut X.H.length, rfl, c3, c1, c2, u, rfl, freeze_run hO.ok 6 _ _ _ L hfr hv⟩
              · cases hl
      split at h
      · rename_i st1 h1
        exact den_sound hmix (callN_ref n) hY.2.1 n A.ac hfine Fence.wide X B _ _ _ _ X _ hS0 h1 fun a1 X1 hS1 => ret st1 a1 X1 hS1 h
      · rename_i st1 h1
        exact den_sound hmix (callN_ref n) hY.2.1 n A.ac hfine Fence.wide X B _ _ _ _ X _ hS0 h1 fun a1 X1 hS1 => ret st1 a1 X1 hS1 h
      · rename_i v st1 h1
        split at h
        · rename_i hu
          cases h
          refine den_sound hmix (callN_ref n) hY.2.1 n A.ac hfine Fence.wide X B _ _ _ _ X _ hS0 h1 fun a1 X1 cv hS1 hv => ?_
          refine fin st1 a1 X1 (.panicking [{ v := cv, recovered := false }]) hS1 (by simp) (fun X2 => VRel X2 L v cv) hv (fun X2 r h hs => hs L v cv h) fun X2 hO hv2 => ?_
          obtain ⟨c1, c2, c3⟩ := hcut st1 a1 X1 X2 hS1 hO
          exact ⟨X2.cut X.H.length, rfl, c3, c1, c2, cv, rfl, hv2.cut hu⟩
        · cases h
      · cases h

end
end Go.Abs
