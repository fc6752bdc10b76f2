/- A range over a function. -/
import Derived.Test.YtlphdiccffnckaaCtc
import Derived.RangeFuncNested
namespace Go.Abs

theorem OutPost.wider {X : Cx} {L L' : List Nat} (hL : ∀ (j l : Nat), L[j]? = some l → L'[j]? = some l) {o : Out} {H : List Ent} {e : Ending} {w : World} (h : OutPost X L o H e w) : OutPost X L' o H e w := by
  obtain ⟨X', h1, h2, h3, h4, h5⟩ := h
  refine ⟨X', h1, h2, h3, h4, ?_⟩
  cases o with
  | ret v => obtain ⟨cv, he, hv⟩ := h5; exact ⟨cv, he, hv.wider hL⟩
  | pan v => obtain ⟨cv, he, hv⟩ := h5; exact ⟨cv, he, hv.wider hL⟩

section
variable {P : Program} {E : Env} {C : CF} {Y : List YF} {L : List Nat} {F : Fence} {nt : Nat} {X0 : Cx}

/-- The machine does with this code what is said. -/
def DSound (P : Program) (E : Env) (C : CF) (Y : List YF) (L : List Nat) (nt : Nat) (D : St → Option (Ex × St)) (c : Code) : Prop :=
  ∀ (F : Fence) (X0 : Cx), Base P E C Y L F X0 → ∀ (st : St) (ex : Ex) (st' : St) (a : Act) (X : Cx) (Q : Exit → Act → World → Prop), StRel X0 L nt st a X → D st = some (ex, st') → Onward L (StRel X0 L nt) ex st' Q → c.wpIn F 0 P Q a X.w

theorem putAll_rel {X : Cx} {L L' : List Nat} : ∀ {ps : List Nat} {args : List AV} {tm : Slots} {cargs : List Value} {tmps : Array Value}, SRel X L tm tmps → AV.pureL args = true → cargs.length = args.length → (∀ (i : Nat) a v, args[i]? = some a → cargs[i]? = some v → VRel X L' a v) →
    ps.all (fun p => decide (p < tmps.size)) = true → SRel X L (tm.putAll ps args) ((ps.zip cargs).foldl (fun tmps x => tmps.setIfInBounds x.1 x.2) tmps) ∧ ((ps.zip cargs).foldl (fun tmps x => tmps.setIfInBounds x.1 x.2) tmps).size = tmps.size
  | [], args, tm, cargs, tmps, hS, _, _, _, _ => by
    cases args <;> exact ⟨hS, rfl⟩
  | p :: ps, [], tm, [], tmps, hS, _, _, _, _ => ⟨hS, rfl⟩
  | p :: ps, [], tm, c :: cs, tmps, _, _, hl, _, _ => by simp at hl
  | p :: ps, a :: args, tm, [], tmps, _, _, hl, _, _ => by simp at hl
  | p :: ps, a :: args, tm, c :: cs, tmps, hS, hpu, hl, hp, hps => by
    simp only [AV.pureL, Bool.and_eq_true] at hpu
    simp only [List.all_cons, Bool.and_eq_true, decide_eq_true_eq] at hps
    have h1 := SRel.put (a := { tmps := tmps, defers := [] }) hS (dst := some p) (v := a) (cv := c) (fun d hd => by cases hd; exact hps.1) (.frz ((hp 0 a c rfl rfl).pure hpu.1))
    have h2 := putAll_rel (ps := ps) (args := args) (tm := tm.put p a) (cargs := cs) (tmps := tmps.setIfInBounds p c) h1 hpu.2 (by simpa using hl) (fun i a v ha hv => hp (i + 1) a v (by simpa using ha) (by simpa using hv)) (by simpa using hps.2)
    exact ⟨h2.1, by simpa using h2.2⟩

theorem zipFold (ps : List Nat) (cargs : Array Value) (tmps : Array Value) : (ps.toArray.zip cargs).foldl (fun tmps x => tmps.setIfInBounds x.1 x.2) tmps = (ps.zip cargs.toList).foldl (fun tmps x => tmps.setIfInBounds x.1 x.2) tmps := by
  rw [← Array.foldl_toList, Array.toList_zip]

/-- The record of a loop is there still. -/
theorem loop_kept {X X' : Cx} (hX : X.Ok) (hX' : X'.Ok) (t : Trans X X') {k l : Nat} {r : Loop} (hE : X.E[k]? = some (.loop l r)) :
    X'.E[k]? = some (.loop l r) ∧ ∃ s p, X'.H[k]? = some (.loop s p) ∧ X'.w.heap[l]? = some (.loop { r with state := s, pending := p.map Jmp.code }) := by
  obtain ⟨h, hH, hr⟩ := hX.hent hE
  cases h <;> simp only [EntRel] at hr
  obtain ⟨h', e', hH', hE', ht⟩ := t.turn k _ _ hH hE
  cases h' <;> cases e' <;> simp only [Turns] at ht
  obtain ⟨rfl, rfl⟩ := ht
  have := hX'.ent k _ _ hH' hE'
  simp only [EntRel] at this
  exact ⟨hE', _, _, hH', this.2⟩

/-- The record of a loop is written. -/
theorem loop_put {X : Cx} (hX : X.Ok) {k l : Nat} {r : Loop} (hE : X.E[k]? = some (.loop l r)) (s : LoopState) (p : Option Jmp) :
    ∃ X', X'.w = X.w.putObj l (.loop { r with state := s, pending := p.map Jmp.code }) ∧ X'.Ok ∧ Trans X X' ∧ X'.H = X.H.set k (.loop s p) ∧ X'.E = X.E := by
  obtain ⟨h, hH, hr⟩ := hX.hent hE
  cases h <;> simp only [EntRel] at hr
  have hl := hX.bnd l hr.1
  have hsz : Later X.w (X.w.putObj l (.loop { r with state := s, pending := p.map Jmp.code })) := ⟨by simp, rfl, rfl⟩
  have hk : ∀ b, b < X.w.heap.size → (EC.loop l r).blk ≠ some b → (X.w.putObj l (.loop { r with state := s, pending := p.map Jmp.code })).heap[b]? = X.w.heap[b]? := fun b _ hb => World.putObj_heap_other fun e => hb (by rw [e]; rfl)
  have t : Trans X (X.put (X.w.putObj l (.loop { r with state := s, pending := p.map Jmp.code })) k (.loop l r) (.loop s p) (.loop l r)) := Cx.put_trans hX hH hE hsz hk (fun b hb => .inl hb) ⟨rfl, rfl⟩
  have hok : (X.put (X.w.putObj l (.loop { r with state := s, pending := p.map Jmp.code })) k (.loop l r) (.loop s p) (.loop l r)).Ok := Cx.put_ok hX hH hE hsz hk (fun b hb => .inl hb) (fun b hb => by cases hb; simpa using hl) ⟨rfl, rfl⟩
    (fun _ => ⟨.inr rfl, World.putObj_heap_same hl⟩)
  refine ⟨_, rfl, hok, t, rfl, ?_⟩
  simp only [Cx.put]
  obtain ⟨hlt, hget⟩ := List.getElem?_eq_some_iff.1 hE
  rw [← hget, List.set_getElem_self]

/-- A round of the loop. -/
theorem round_sound {asg body : St → Option (Ex × St)} {casg cbody : Code} (hsa : DSound P E C Y L nt asg casg) (hsb : DSound P E C Y L nt body cbody) (hra : DRef asg) (hrb : DRef body)
    {X1 : Cx} (B : Base P E C Y L Fence.wide X1) {k l : Nat} {r : Loop} (hE : X1.E[k]? = some (.loop l r)) {ps : List Nat} {tm : Slots} (hrp : r.params = ps.toArray) (hrs : r.assign = casg) (hrbd : r.body = cbody) (hsz : nt ≤ r.tmps.size)
    (hps : ps.all (fun p => decide (p < nt)) = true) (hS : SRel X1 L tm r.tmps) {X : Cx} {L' : List Nat} {args : List AV} {cargs : Array Value} {o : Out} {H' : List Ent} (t : Trans X1 X) (hX : X.Ok) (ha : ARel X L' args cargs)
    (h : roundOf ps tm k asg body args X.H = some (o, H')) :
    ∃ fn tmps asg body, (Instr.yield l cargs).run P X.w = .ok (.round l fn tmps asg body) X.w ∧ RoundIn Fence.wide 0 P l fn tmps asg body X.w (OutPost X L o H') := by
  obtain ⟨hEX, s, p, hHX, hheap⟩ := loop_kept B.ok0 hX t hE
  unfold roundOf at h
  split at h
  · rename_i hHk
    rw [hHX] at hHk
    cases hHk
    split at h
    · rename_i hc
      split at h
      · rename_i st1 h1
        split at h
        · rename_i hst1
          split at h
          · rename_i ex2 st2 h2
            have hsize : cargs.size = ({ r with state := LoopState.ready, pending := Option.map Jmp.code none } : Loop).params.size := by
              simp [hrp, ha.1, hc.1]
            refine ⟨_, _, _, _, run_yield hheap hsize, ?_⟩
            have hSX : SRel X L tm r.tmps := hS.trans t B.ok0
            obtain ⟨hp1, hp2⟩ := putAll_rel (ps := ps) (args := args) (L' := L') (cargs := cargs.toList) hSX hc.2 (by simpa using ha.1) (fun i a v hi hv => ha.2 i a v hi (by simpa using hv)) (by simp only [List.all_eq_true, decide_eq_true_eq] at hps ⊢; exact fun p hp => Nat.lt_of_lt_of_le (hps p hp) hsz)
            have B' : Base P E C Y L (Fence.wide.inRound l) X := ⟨B.tok, B.cs, B.cr, .inr ⟨l, rfl⟩, hX, B.gok.trans t B.ok0, B.ys.later t, fun l' hl' => by cases hl'; exact ⟨k, r, _, _, hEX, hHX⟩⟩
            refine roundIn_of_wpIn trivial ?_
            simp only [hrp, hrs, hrbd, zipFold]
            refine hsa _ X B' _ _ _ _ X _ ?_ h1 ?_
            · exact ⟨hX, Trans.refl hX, rfl, hp1, (by rw [hp2]; exact hsz), hX.len.symm, .refl _ _, ⟨[], rfl, List.nodup_nil, fun r hr => by cases hr⟩⟩
            · intro a1 Xa hSa
              obtain ⟨hEa, s1, p1, hHa, hheapa⟩ := loop_kept hX hSa.ok hSa.trans hEX
              rw [hSa.hH, hst1] at hHa
              cases hHa
              refine ⟨_, run_beginRound hheapa rfl, ?_⟩
              obtain ⟨Xb, hwb, hokb, htb, hHb, hEb⟩ := loop_put hSa.ok hEa .busy none
              rw [show ({ ({ r with state := LoopState.ready, pending := Option.map Jmp.code none } : Loop) with state := LoopState.busy } : Loop) = { r with state := LoopState.busy, pending := Option.map Jmp.code none } from rfl, ← hwb]
              have r1 := hra _ _ _ (Nat.le_refl _) h1
              refine hsb _ X B' { st1 with H := st1.H.set k (.loop .busy none) } ex2 st2 a1 Xb _ ?_ h2 ?_
              · refine ⟨hokb, hSa.trans.trans htb, by rw [hHb, hSa.hH], hSa.slots.trans htb hSa.ok, hSa.size, hSa.b, ?_, hSa.defs.trans htb hSa.ok⟩
                exact hSa.ref.trans (.set fun h _ _ n _ => rfl)
              · -- the end of the round
                have last : ∀ (jump : Option Jmp) (s' : LoopState), s' = (if (jump.map Jmp.code).isNone then .ready else .done) → ∀ a2 Xc, StRel X L nt st2 a2 Xc →
                    ∃ v w', (Instr.endRound l (jump.map Jmp.code)).run P Xc.w = .ok v w' ∧ OutPost X L (.ret (.sc (.bool jump.isNone))) ((st2.H.set k (.loop s' jump)).take X.H.length) (.returned v) w' := by
                  intro jump s' hs' a2 Xc hSc
                  obtain ⟨hEc, s2, p2, hHc, hheapc⟩ := loop_kept hX hSc.ok hSc.trans hEX
                  refine ⟨_, _, run_endRound _ hheapc, ?_⟩
                  obtain ⟨Xd, hwd, hokd, htd, hHd, hEd⟩ := loop_put hSc.ok hEc s' jump
                  have hbX : X.H.length = st2.b := by rw [hSc.b, hX.len]
                  have hun : ∀ (j : Nat) e, j < X.H.length → Xd.H[j]? = some e → Ent.under X.H.length e = true := by
                    intro j e hj he
                    rw [hHd, List.getElem?_set] at he
                    split at he
                    · split at he
                      · cases he; rfl
                      · cases he
                    · exact hSc.old hX (by omega) he (by omega)
                  refine ⟨Xd.cut X.H.length, ?_, by simp [Cx.cut, hHd, hSc.hH], Cx.cut_ok hokd hun, (hSc.trans.trans htd).cut (by rw [hX.len]; exact Nat.le_refl _), _, rfl, ?_⟩
                  · show Xd.w = _
                    rw [hwd, hs']
                  · cases jump <;> exact .frz (.sc _)
                unfold roundEnd at h
                split at h <;> cases h
                · intro a2 Xc hSc
                  exact last none .ready rfl a2 Xc hSc
                · intro a2 Xc hSc
                  exact last (some .ret) .done rfl a2 Xc hSc
                · intro a2 Xc hSc
                  exact last (some (.exit _)) .done rfl a2 Xc hSc
          · cases h
        · cases h
      · cases h
    · cases h
  · cases h

/-- The loop's record is laid. -/
theorem enter_loop (B : Base P E C Y L F X0) {st : St} {a : Act} {X : Cx} (hS : StRel X0 L nt st a X) (fn : FuncId) (ps : Array Tmp) (casg cbody : Code) :
    ∃ (l : Nat) (mk : List Deferred) (w1 : World) (r : Loop), (Instr.enterLoop fn a.tmps ps casg cbody F.round).run P X.w = .ok (l, mk) w1 ∧ r.params = ps ∧ r.assign = casg ∧ r.body = cbody ∧ r.tmps = a.tmps ∧
      (X.push w1 (.loop .ready none) (.loop l r)).Ok ∧ Trans X (X.push w1 (.loop .ready none) (.loop l r)) ∧ DefOk X0 (mk ++ a.defers) (X.push w1 (.loop .ready none) (.loop l r)) := by
  have key : ∀ (l : Nat) (w1 : World) (r : Loop), X.w.heap.size ≤ l → w1.heap[l]? = some (.loop { r with state := .ready, pending := none }) → Later X.w w1 → (∀ b, b < X.w.heap.size → w1.heap[b]? = X.w.heap[b]?) →
      (X.push w1 (.loop .ready none) (.loop l r)).Ok ∧ Trans X (X.push w1 (.loop .ready none) (.loop l r)) := by
    intro l w1 r hl hh hsz hk
    have hn : ∀ b, (EC.loop l r).blk = some b → X.w.heap.size ≤ b := fun b hb => by cases hb; exact hl
    exact ⟨Cx.push_ok hS.ok hsz hk hn (fun b hb => by cases hb; exact (Array.getElem?_eq_some_iff.1 hh).1) (fun _ => ⟨.inr rfl, hh⟩), Cx.push_trans hS.ok hsz hk hn⟩
  rcases hF : F.round with _ | l0
  · obtain ⟨rec, hrec⟩ : ∃ rec : Loop, rec = { state := .ready, pending := none, fn, tmps := a.tmps, params := ps, assign := casg, body := cbody, defers := X.w.heap.size } := ⟨_, rfl⟩
    have hrun := run_enterLoop_outer (P := P) (w := X.w) fn a.tmps ps casg cbody
    rw [← hrec] at hrun
    have hL : ((X.w.alloc (.deferred (some []))).alloc (.loop rec)).heap[X.w.heap.size + 1]? = some (.loop rec) := by
      have := World.alloc_heap_new (X.w.alloc (.deferred (some []))) (.loop rec)
      rwa [World.size_alloc] at this
    have hD : ((X.w.alloc (.deferred (some []))).alloc (.loop rec)).heap[X.w.heap.size]? = some (.deferred (some [])) := by
      show ((X.w.heap.push (.deferred (some []))).push (.loop rec))[X.w.heap.size]? = some (.deferred (some []))
      rw [Array.getElem?_push, if_neg (by simp), Array.getElem?_push, if_pos rfl]
    have hk : ∀ b, b < X.w.heap.size → ((X.w.alloc (.deferred (some []))).alloc (.loop rec)).heap[b]? = X.w.heap[b]? := fun b hb => by
      show ((X.w.heap.push (.deferred (some []))).push (.loop rec))[b]? = X.w.heap[b]?
      rw [Array.getElem?_push, if_neg (by simp; omega), Array.getElem?_push, if_neg (by omega)]
    obtain ⟨k1, k2⟩ := key (X.w.heap.size + 1) ((X.w.alloc (.deferred (some []))).alloc (.loop rec)) rec (by omega) (by rw [hL, hrec]) ⟨by rw [World.size_alloc, World.size_alloc]; omega, rfl, rfl⟩ hk
    refine ⟨_, _, _, rec, hrun, by rw [hrec], by rw [hrec], by rw [hrec], by rw [hrec], k1, k2, ?_⟩
    obtain ⟨rs, h1, h2, h3⟩ := hS.defs.trans k2 hS.ok
    refine ⟨X.w.heap.size :: rs, by simp [h1, mark], List.nodup_cons.2 ⟨fun hm => ?_, h2⟩, fun r hr => ?_⟩
    · obtain ⟨rs', h1', _, h3'⟩ := hS.defs
      have : rs' = rs := by
        have hinj : Function.Injective mark := fun x y h => by simpa [mark] using h
        exact (List.map_inj_right (fun x y h => hinj h)).1 (h1'.symm.trans h1)
      subst this
      have := (Array.getElem?_eq_some_iff.1 (h3' _ hm).2).1
      omega
    · rcases List.mem_cons.1 hr with rfl | hr
      · exact ⟨hS.trans.size, hD⟩
      · exact h3 r hr
  · obtain ⟨k, r0, s, p, hE, hH⟩ := B.rd l0 hF
    obtain ⟨_, s', p', _, hheap⟩ := loop_kept B.ok0 hS.ok hS.trans hE
    have hrun := run_enterLoop_inner (P := P) hheap fn a.tmps ps casg cbody
    obtain ⟨rec, hrec⟩ : ∃ rec : Loop, rec = { state := .ready, pending := none, fn, tmps := a.tmps, params := ps, assign := casg, body := cbody, defers := ({ r0 with state := s', pending := Option.map Jmp.code p' } : Loop).defers } := ⟨_, rfl⟩
    rw [← hrec] at hrun
    have hL : (X.w.alloc (.loop rec)).heap[X.w.heap.size]? = some (.loop rec) := World.alloc_heap_new X.w (.loop rec)
    have hk : ∀ b, b < X.w.heap.size → (X.w.alloc (.loop rec)).heap[b]? = X.w.heap[b]? := fun b hb => by
      show (X.w.heap.push (.loop rec))[b]? = X.w.heap[b]?
      rw [Array.getElem?_push, if_neg (by omega)]
    obtain ⟨k1, k2⟩ := key X.w.heap.size (X.w.alloc (.loop rec)) rec (by omega) (by rw [hL, hrec]) ⟨by rw [World.size_alloc]; omega, rfl, rfl⟩ hk
    exact ⟨_, _, _, rec, hrun, by rw [hrec], by rw [hrec], by rw [hrec], by rw [hrec], k1, k2, by simpa using hS.defs.trans k2 hS.ok⟩

/-- The statement. -/
theorem rangeFn_sound {asg body : St → Option (Ex × St)} {casg cbody : Code} (hsa : DSound P E C Y L nt asg casg) (hsb : DSound P E C Y L nt body cbody) (hra : DRef asg) (hrb : DRef body)
    {f : Operand} {ps : List Nat} (hps : ps.all (fun p => decide (p < nt)) = true) (B : Base P E C Y L F X0) {st : St} {ex : Ex} {st' : St} {a : Act} {X : Cx} {Q : Exit → Act → World → Prop} (hS : StRel X0 L nt st a X)
    (h : rangeFn C Y (aval E.G st.tm f) ps asg body st = some (ex, st')) (hon : Onward L (StRel X0 L nt) ex st' Q) : (Code.rangeFunc f ps.toArray casg cbody).wpIn F 0 P Q a X.w := by
  have hlenB := hS.lenB B
  have hrf := rangeFn_ref B.cr B.ys.2.1 hra hrb st ex st' hlenB h
  have hX := hS.ok
  have hG := B.gok.trans hS.trans B.ok0
  have hLY : L.length = Y.length := B.ys.1
  have hwid : ∀ {l : Nat} (j l' : Nat), L[j]? = some l' → (L ++ [l])[j]? = some l' := fun j l' hj => getElem?_old hj
  unfold rangeFn at h
  split at h
  · rename_i g caps hfv
    split at h
    · rename_i v H' hcall
      have hev := aval_rel (L := L) hG hS.slots f
      rw [hfv] at hev
      obtain ⟨vs, hvs, hl, hp⟩ := hev.fn_inv
      refine wpIn_rangeFunc fun fn _ => ?_
      obtain ⟨l, mk, w1, r, hent, hrp, hras, hrb', hrt, hok1, ht1, hdef1⟩ := enter_loop B hS fn ps.toArray casg cbody
      obtain ⟨X1, hX1⟩ : ∃ X1, X1 = X.push w1 (.loop .ready none) (.loop l r) := ⟨_, rfl⟩
      rw [← hX1] at hok1 ht1 hdef1
      have hw1 : X1.w = w1 := by rw [hX1]; rfl
      have hH1 : X1.H = st.H ++ [.loop .ready none] := by rw [hX1, ← hS.hH]; rfl
      have hE1 : X1.E[st.H.length]? = some (.loop l r) := by rw [hX1, ← hS.hH, ← hX.len]; simp [Cx.push]
      obtain ⟨hcf, hcs⟩ := B.cs _ _ _ _ _ _ hcall
      have hres : (resolve a.eval (rangeCall f l) 0).run P w1 = .ok { target := .fn (.func g) vs, args := #[.func (.yield l) #[] #[]] } w1 := by
        simp only [resolve, rangeCall]
        rw [hvs]
        simp only [Deferred.ofValue, Sem.run_pure, List.map_toArray, List.map_cons, List.map_nil, Array.empty_append]
        rfl
      have hinv : (invoke (Target.fn (.func g) vs) #[.func (.yield l) #[] #[]]).run P w1 = .ok (.enter g (#[.func (.yield l) #[] #[]] ++ vs)) w1 := by
        simp only [invoke, hcf]
      refine ⟨l, mk, w1, _, w1, g, _, w1, hent, hres, fun f' _ => B.wf.fn f', hinv, fun hd => by simp [B.wf.depth] at hd, ?_⟩
      have hargs : ARel X1 (L ++ [l]) (.yl Y.length :: caps) (#[.func (.yield l) #[] #[]] ++ vs) := by
        refine ⟨by simp [hl]; omega, fun i x v hx hv => ?_⟩
        cases i with
        | zero =>
          rw [Array.getElem?_append_left (by simp)] at hv
          simp at hx hv
          subst hx
          subst hv
          refine .yl ?_
          rw [← hLY]
          simp
        | succ i =>
          have hv' : vs[i]? = some v := by
            rw [Array.getElem?_append_right (by simp)] at hv
            simpa using hv
          exact ((hp i x v (by simpa using hx) hv').wider hwid).trans ht1 hX
      have hYs : YSound P X1 (L ++ [l]) (Y ++ [roundOf ps st.tm st.H.length asg body]) := by
        refine ⟨by simp [hLY], fun y hy args H o H' hr => ?_, fun j y l' hy hl' X' L' args cargs o H' t' hX' ha hr => ?_⟩
        · rcases List.mem_append.1 hy with hy | hy
          · exact B.ys.2.1 y hy _ _ _ _ hr
          · cases List.mem_singleton.1 hy
            exact roundOf_ref hra hrb hr
        · rcases getElem?_push hy with hy | ⟨hj, rfl⟩
          · have hlt := (List.getElem?_eq_some_iff.1 hy).1
            rw [List.getElem?_append_left (by omega)] at hl'
            obtain ⟨fn', tmps', asg', body', h1, h2⟩ := B.ys.2.2 j y l' hy hl' X' L' args cargs o H' ((hS.trans.trans ht1).trans t') hX' ha hr
            exact ⟨fn', tmps', asg', body', h1, h2.mono fun e w he => he.wider hwid⟩
          · have hll : l' = l := by
              rcases getElem?_push hl' with h1 | ⟨_, h1⟩
              · have := (List.getElem?_eq_some_iff.1 h1).1
                omega
              · exact h1
            subst hll
            have B1 : Base P E C Y L Fence.wide X1 := ⟨B.tok, B.cs, B.cr, .inl rfl, hok1, hG.trans ht1 hX, B.ys.later (hS.trans.trans ht1), fun l' hl' => by cases hl'⟩
            obtain ⟨fn', tmps', asg', body', h1, h2⟩ := round_sound hsa hsb hra hrb B1 hE1 hrp hras hrb' (by rw [hrt]; exact hS.size) hps (by rw [hrt]; exact hS.slots.trans ht1 hX) t' hX' ha hr
            exact ⟨fn', tmps', asg', body', h1, h2.mono fun e w he => he.wider hwid⟩
      have hcalls := hcs X1 (L ++ [l]) _ hH1 hok1 (hG.trans ht1 hX) hargs hYs
      rw [hw1] at hcalls
      refine (B.wf.calls hcalls).mono fun e w3 hpost => ?_
      obtain ⟨X6, rfl, hH6, hok6, ht6, cv, rfl, hcv⟩ := hpost
      obtain ⟨hE6, s6, p6, hHk6, hheap6⟩ := loop_kept hok1 hok6 ht6 hE1
      rw [hH6] at hHk6
      rw [hHk6] at h
      have hnb : s6 ≠ .busy := by
        rintro rfl
        simp at h
      have haft : afterLoop st (H'.take st.H.length) p6 = some (ex, st') := by
        cases s6 <;> first | exact absurd rfl hnb | exact h
      obtain ⟨X7, hw7, hok7, ht7, hH7, hE7⟩ := loop_put hok6 hE6 .exhausted p6
      refine ⟨_, _, run_endLoop hheap6 hnb, ?_⟩
      have hcr := B.cr _ _ _ _ _ _ hcall hYs.2.1
      have hun : ∀ (j : Nat) e, j < st.H.length → X7.H[j]? = some e → Ent.under st.H.length e = true := by
        intro j e hj he
        rw [hH7, List.getElem?_set_ne (by omega), hH6] at he
        obtain ⟨e0, hj0⟩ : ∃ e0, X.H[j]? = some e0 := ⟨_, List.getElem?_eq_getElem (by rw [hS.hH]; exact hj)⟩
        have hj1 : (st.H ++ [Ent.loop .ready none])[j]? = some e0 := by
          rw [← hS.hH]; exact getElem?_old hj0
        obtain ⟨h', h1, h2⟩ := hcr j _ (by simp; omega) hj1
        rw [he] at h1
        cases h1
        exact h2 _ (hX.under hj0 (by rw [hX.len, hS.hH]; exact Nat.le_refl _))
      have htr : Trans X X7 := ht1.trans (ht6.trans ht7)
      have hfinal : StRel X0 L nt { st with H := H'.take st.H.length } { a with defers := mk ++ a.defers } (X7.cut st.H.length) := by
        refine ⟨Cx.cut_ok hok7 hun, (hS.trans.trans htr).cut ?_, ?_, fun t => ((hS.slots t).trans htr hX).cut ((hS.slots t).under (by rw [hX.len, hS.hH]; exact Nat.le_refl _)), hS.size, hS.b, ?_, ?_⟩
        · rw [← hS.hH, ← hX.len]
          exact hS.trans.lenE B.ok0
        · simp only [Cx.cut, hH7, hH6]
          rw [List.take_set_of_le (Nat.le_refl _)]
        · refine hS.ref.trans ?_
          have hlt : st.b ≤ (st.H ++ [Ent.loop .ready none]).length := by simp; omega
          exact ((RefL.push st.b st.H _).trans (hcr.less hlt)).trans (.take hlenB)
        · obtain ⟨rs, h1, h2, h3⟩ := hdef1.trans (ht6.trans ht7) hok1
          exact ⟨rs, h1, h2, h3⟩
      have hw7' : (X7.cut st.H.length).w = (X6.w.putObj l (.loop { ({ r with state := s6, pending := p6.map Jmp.code } : Loop) with state := .exhausted })) := hw7
      rw [← hw7']
      unfold afterLoop at haft
      cases p6 with
      | none =>
        cases haft
        exact hon _ _ hfinal
      | some j =>
        cases j with
        | ret =>
          cases haft
          exact wpIn_ret (hon _ _ hfinal)
        | exit id =>
          cases haft
          exact wpIn_exit (hon _ _ hfinal)
    · cases h
  · cases h

end
end Go.Abs
