/- Texts put together: Ctc, Ctd, Cte, Lim, Prg, Sym. -/
import Derived.Test.YtlphdiccffnckaaPac
import Derived.RangeFuncNested

/- What the translator's words do: the machine does nothing, what is known of it is put otherwise. -/
namespace Go.Abs

theorem VRel.under {X : Cx} {L : List Nat} {a : AV} {v : Value} (h : VRel X L a v) {n : Nat} (hn : X.E.length ≤ n) : AV.under n a = true := by
  have lst : ∀ {cs : List AV} {vs : Array Value}, vs.size = cs.length → (∀ (i : Nat) c v, cs[i]? = some c → vs[i]? = some v → AV.under n c = true) → AV.underL n cs = true := by
    intro cs vs hl hp
    rw [underL_iff]
    intro c hc
    obtain ⟨i, hi⟩ := List.mem_iff_getElem?.1 hc
    have hlt := (List.getElem?_eq_some_iff.1 hi).1
    exact hp i c vs[i] hi (Array.getElem?_eq_getElem (by omega))
  have fr : ∀ {a : AV} {v : Value}, FRel X.w X.M a v → AV.under n a = true := by
    intro a v h
    induction h with
    | und => rfl
    | sc => rfl
    | agg hl _ _ ih => exact lst hl ih
    | tup hl _ ih => exact lst hl ih
    | fn hl _ ih => exact lst hl ih
    | ifc _ ih => exact ih
    | slE => rfl
    | nsl => rfl
    | sl => rfl
    | fp => rfl
  induction h with
  | frz h => exact fr h
  | agg hl _ _ ih => exact lst hl ih
  | tup hl _ ih => exact lst hl ih
  | fn hl _ ih => exact lst hl ih
  | ifc _ ih => exact ih
  | yl => rfl
  | bp _ hk _ => simp [AV.under]; omega
  | bxs _ hk _ => simp [AV.under]; omega
  | os _ hk _ _ => simp [AV.under]; omega
  | op _ hk _ _ => simp [AV.under]; omega

theorem Cx.Ok.under {X : Cx} (h : X.Ok) {k : Nat} {e : Ent} (hk : X.H[k]? = some e) {n : Nat} (hn : X.E.length ≤ n) : Ent.under n e = true := by
  obtain ⟨e', hE, hr⟩ := h.hec hk
  cases e <;> cases e' <;> simp only [EntRel] at hr <;> simp only [Ent.under]
  · obtain ⟨_, arr, T, _, hl, _, hp⟩ := hr
    rw [underL_iff]
    intro c hc
    obtain ⟨i, hi⟩ := List.mem_iff_getElem?.1 hc
    have hlt := (List.getElem?_eq_some_iff.1 hi).1
    exact (hp i c arr[i] hi (Array.getElem?_eq_getElem (by omega))).under hn
  · obtain ⟨_, _, ⟨a, _, rfl⟩ | ⟨b, cap, arr, T, _, _, _, _, _, _, hp⟩⟩ := hr
    · rfl
    · rw [underLL_iff]
      intro x hx
      rw [underL_iff]
      intro c hc
      obtain ⟨i, hi⟩ := List.mem_iff_getElem?.1 hx
      obtain ⟨j, hj⟩ := List.mem_iff_getElem?.1 hc
      obtain ⟨v, _, hv⟩ := hp i j x c hi hj
      exact hv.under hn

theorem isNilSl_eq {v : AV} (h : isNilSl v = true) : v = .sc (.slice none 0 0) := by
  unfold isNilSl at h
  split at h
  · rfl
  · cases h

section
variable {P : Program} {E : Env} {C : CF} {Y : List YF} {L : List Nat} {F : Fence} {nt : Nat} {X0 : Cx}

/-- What lay there when the call began leads nowhere new; so it leads to nothing of the call's own. -/
theorem StRel.old (h0 : X0.Ok) {st : St} {a : Act} {X : Cx} (h : StRel X0 L nt st a X) {k : Nat} {e : Ent} (hk : k < st.b) (he : X.H[k]? = some e) {n : Nat} (hn : st.b ≤ n) : Ent.under n e = true := by
  have hk0 : k < X0.H.length := by have := h.b; have := h0.len; omega
  obtain ⟨h', h1, h2⟩ := h.ref k X0.H[k] hk (List.getElem?_eq_getElem hk0)
  rw [← h.hH, he] at h1
  cases h1
  exact h2 n (h0.under (List.getElem?_eq_getElem hk0) (by have := h.b; omega))

theorem mapTm_get (tm : Slots) : ∀ (ts : List Nat) (t : Nat), (Slots.get (ts.map fun t => (t, tm.get t)) t = tm.get t ∧ t ∈ ts) ∨ Slots.get (ts.map fun t => (t, tm.get t)) t = .und := onlyOf_get tm

theorem ghost_sound (h0 : X0.Ok) {g : Ghost} {st st' : St} {a : Act} {X : Cx} (hS : StRel X0 L nt st a X) (h : ghost g st = some st') : ∃ X', X'.w = X.w ∧ StRel X0 L nt st' a X' := by
  have hb : st.b ≤ st.H.length := by rw [hS.b, ← hS.hH, ← hS.ok.len]; exact hS.trans.lenE h0
  have href := ghost_ref hb h
  -- put together
  have fin : ∀ X', X'.w = X.w → X'.Ok → Trans X0 X' → X'.H = st'.H → SRel X' L st'.tm a.tmps → ∃ X', X'.w = X.w ∧ StRel X0 L nt st' a X' := by
    intro X' hw hok ht hH hsl
    refine ⟨X', hw, hok, ht, hH, hsl, hS.size, href.1.trans hS.b, href.1.symm ▸ hS.ref.trans href.2.2, ?_⟩
    obtain ⟨rs, h1, h2, h3⟩ := hS.defs
    exact ⟨rs, h1, h2, fun r hr => ⟨(h3 r hr).1, by rw [hw]; exact (h3 r hr).2⟩⟩
  have hsz : Later X.w X.w := .refl _
  unfold ghost at h
  split at h
  · rename_i slots m
    simp only at h
    split at h
    · rename_i hc
      simp only [Bool.and_eq_true, List.all_eq_true] at hc
      cases h
      have hun : ∀ (k : Nat) e, k < st.b + m → X.H[k]? = some e → Ent.under (st.b + m) e = true := by
        intro k e hk he
        by_cases hkb : k < st.b
        · exact hS.old h0 hkb he (by omega)
        · refine hc.2 e (List.mem_of_getElem? (i := k - st.b) ?_)
          rw [List.getElem?_drop, List.getElem?_take, if_pos (by omega), ← hS.hH]
          rw [show st.b + (k - st.b) = k from by omega]
          exact he
      refine fin (X.cut (st.b + m)) rfl (Cx.cut_ok hS.ok hun) (hS.trans.cut (by have := hS.b; omega)) (by simp [Cx.cut, hS.hH]) fun t => ?_
      rcases mapTm_get st.tm slots t with ⟨h1, h2⟩ | h1
      · simp only [h1]
        refine (hS.slots t).cut ?_
        exact hc.1 (t, st.tm.get t) (List.mem_map.2 ⟨t, h2, rfl⟩)
      · simp only [h1]
        exact .frz (.und _)
    · cases h
  · rename_i s
    split at h
    · rename_i k off len vr hs
      split at h
      · rename_i hk
        split at h
        · rename_i p z xs hsn
          split at h
          · rename_i hp
            subst hp
            cases h
            have hsl := hS.slots s
            rw [hs] at hsl
            rw [← hS.hH] at hsn
            obtain ⟨vr', z', ys, hHk⟩ : ∃ vr' z' ys, X.H[k]? = some (.own vr' z' ys) := by
              simp only [snap] at hsn
              split at hsn
              · exact ⟨_, _, _, by assumption⟩
              · cases hsn
            obtain ⟨e, hE, hr⟩ := hS.ok.hec hHk
            cases e <;> simp only [EntRel] at hr
            rename_i hdr
            have tr : Trans X (X.put X.w k (.own hdr) .dead .dead) := Cx.put_trans hS.ok hHk hE hsz (fun _ _ _ => rfl) (fun b hb => by cases hb) trivial
            have hok : (X.put X.w k (.own hdr) .dead .dead).Ok := Cx.put_ok hS.ok hHk hE hsz (fun _ _ _ => rfl) (fun b hb => by cases hb) (fun b hb => by cases hb) trivial (fun _ => trivial)
            refine fin (X.put X.w k (.own hdr) .dead .dead) rfl hok (hS.trans.trans tr) (by simp [Cx.put, hS.hH]) fun t => ?_
            rw [get_put]
            split
            · rename_i hst
              subst hst
              refine .frz ((snap_at hS.ok hsn hsl).frel rfl (fun b hm => ?_) fun b hb => ⟨hb.1, fun hm => ?_⟩)
              · rcases hm with hm | hm
                · exact hm.1
                · cases hm
              · rcases hm with hm | hm
                · rcases hb.2 with h1 | ⟨k', e', hk', hE', he'⟩
                  · exact h1 hm.1
                  · rcases hk' with ⟨_, _, _, hk'⟩ | ⟨_, _, _, hk'⟩
                    · cases hk'
                      rw [hE] at hE'
                      cases hE'
                      exact hm.2 he'
                    · cases hk'
                · cases hm
            · exact (hS.slots t).trans tr hS.ok
          · cases h
        · cases h
      · cases h
    · cases h
  · rename_i s z
    split at h
    · rename_i hc
      cases h
      have hnil := isNilSl_eq hc.1
      have hsl := hS.slots s
      rw [hnil] at hsl
      have hv := hsl.sc_inv
      have tr : Trans X (X.push X.w (.own 0 z []) (.own (.slice none 0 0))) := Cx.push_trans hS.ok hsz (fun _ _ => rfl) (fun b hb => by cases hb)
      have hok : (X.push X.w (.own 0 z []) (.own (.slice none 0 0))).Ok := Cx.push_ok hS.ok hsz (fun _ _ => rfl) (fun b hb => by cases hb) (fun b hb => by cases hb) (fun _ => ⟨hc.2, fun x hx => by simp at hx, .inl ⟨none, rfl, rfl⟩⟩)
      refine fin (X.push X.w (.own 0 z []) (.own (.slice none 0 0))) rfl hok (hS.trans.trans tr) (by simp [Cx.push, hS.hH]) fun t => ?_
      rw [get_put]
      split
      · rename_i hst
        subst hst
        rw [hv, ← hS.hH]
        refine .os rfl (by simp [Cx.push, hS.ok.len]) (.inl ⟨0, z, [], by simp [Cx.push], Nat.le_refl _⟩) fun z' xs hdr hH hE => ?_
        simp [Cx.push] at hH
        simp [Cx.push, ← hS.ok.len] at hE
        subst hE
        exact ⟨rfl, rfl, rfl⟩
      · exact (hS.slots t).trans tr hS.ok
    · cases h
  · rename_i s off z
    split at h
    · rename_i k o hs
      split at h
      · rename_i cs hHk
        split at h
        · rename_i v hv
          split at h
          · rename_i hc
            cases h
            have hnil := isNilSl_eq hc.1
            subst hnil
            rw [← hS.hH] at hHk
            have hkl := (List.getElem?_eq_some_iff.1 hHk).1
            obtain ⟨e, hE, hr⟩ := hS.ok.hec hHk
            cases e <;> simp only [EntRel] at hr
            rename_i b
            obtain ⟨hMb, arr, T, harr, hsize, hone, hcells⟩ := hr
            have tr : Trans X (X.push X.w (.own 0 z []) (.own (.slice none 0 0))) := Cx.push_trans hS.ok hsz (fun _ _ => rfl) (fun b hb => by cases hb)
            have hok : (X.push X.w (.own 0 z []) (.own (.slice none 0 0))).Ok := Cx.push_ok hS.ok hsz (fun _ _ => rfl) (fun b hb => by cases hb) (fun b hb => by cases hb) (fun _ => ⟨hc.2.1, fun x hx => by simp at hx, .inl ⟨none, rfl, rfl⟩⟩)
            obtain ⟨X1, hX1⟩ : ∃ X1, X1 = X.push X.w (.own 0 z []) (.own (.slice none 0 0)) := ⟨_, rfl⟩
            rw [← hX1] at tr hok
            have hw1 : X1.w = X.w := by rw [hX1]; rfl
            have hH1 : X1.H[k]? = some (.box cs) := by rw [hX1]; exact getElem?_old hHk
            have hE1 : X1.E[k]? = some (.box b) := by rw [hX1]; exact getElem?_old hE
            have hHl : X1.H = X.H ++ [.own 0 z []] := by rw [hX1]; rfl
            have hEl : X1.E = X.E ++ [.own (.slice none 0 0)] := by rw [hX1]; rfl
            have hbl : b < X1.w.heap.size := by rw [hw1]; exact hS.ok.bnd b hMb
            have tr2 : Trans X1 (X1.put X1.w k (.box b) (.box (cs.set (o + off) (.os X.H.length 0 0 0))) (.box b)) := Cx.put_trans hok hH1 hE1 (.refl _) (fun _ _ _ => rfl) (fun b' hb' => .inl hb') rfl
            have hok2 : (X1.put X1.w k (.box b) (.box (cs.set (o + off) (.os X.H.length 0 0 0))) (.box b)).Ok := Cx.put_ok hok hH1 hE1 (.refl _) (fun _ _ _ => rfl) (fun b' hb' => .inl hb')
              (fun b' hb' => by cases hb'; exact hbl) rfl (fun tt => by
                refine ⟨.inr rfl, arr, T, by show X1.w.heap[b]? = _; rw [hw1]; exact harr, by simp [hsize], hone, fun j c u hj hu => ?_⟩
                rw [List.getElem?_set] at hj
                split at hj
                · rename_i hjo
                  split at hj
                  · cases hj
                    subst hjo
                    have := (hcells _ _ u hv hu).sc_inv
                    subst this
                    refine .os rfl (by simp [Cx.put, hEl, hS.ok.len]) (.inl ⟨0, z, [], ?_, Nat.le_refl _⟩) fun z' xs hdr hH hE => ?_
                    · simp only [Cx.put, hHl]
                      rw [List.getElem?_set_ne (by omega)]
                      simp
                    · simp only [Cx.put, hEl] at hE
                      rw [List.getElem?_set_ne (by omega), ← hS.ok.len] at hE
                      simp at hE
                      subst hE
                      exact ⟨rfl, rfl, rfl⟩
                  · cases hj
                · exact ((hcells j c u hj hu).trans tr hS.ok).trans tt hok)
            refine fin (X1.put X1.w k (.box b) (.box (cs.set (o + off) (.os X.H.length 0 0 0))) (.box b)) hw1 hok2 (hS.trans.trans (tr.trans tr2)) ?_ fun t => ((hS.slots t).trans tr hS.ok).trans tr2 hok
            simp only [Cx.put, hHl, ← hS.hH]
            rw [List.set_append_left _ _ hkl]
          · cases h
        · cases h
      · cases h
    · cases h
  · rename_i s
    split at h
    · rename_i k o hs
      split at h
      · rename_i hk
        split at h
        · rename_i cs hHk
          split at h
          · rename_i hp
            cases h
            have hsl := hS.slots s
            rw [hs] at hsl
            rw [← hS.hH] at hHk
            obtain ⟨e, hE, hr⟩ := hS.ok.hec hHk
            cases e <;> simp only [EntRel] at hr
            rename_i b
            obtain ⟨hMb, arr, ty, harr, hsize, hone, hcells⟩ := hr
            have tr : Trans X (X.put X.w k (.box b) .dead .dead) := Cx.put_trans hS.ok hHk hE hsz (fun _ _ _ => rfl) (fun b hb => by cases hb) trivial
            have hok : (X.put X.w k (.box b) .dead .dead).Ok := Cx.put_ok hS.ok hHk hE hsz (fun _ _ _ => rfl) (fun b hb => by cases hb) (fun b hb => by cases hb) trivial (fun _ => trivial)
            refine fin (X.put X.w k (.box b) .dead .dead) rfl hok (hS.trans.trans tr) (by simp [Cx.put, hS.hH]) fun t => ?_
            rw [get_put]
            split
            · rename_i hst
              subst hst
              have hv := hsl.bp_inv.2.2 b hE
              rw [hv]
              have hnM : ¬ (X.put X.w k (.box b) .dead .dead).M b := by
                intro hm
                rcases hm with hm | hm
                · exact hm.2 rfl
                · cases hm
              have hMs : ∀ b', (X.put X.w k (.box b) .dead .dead).M b' → X.M b' := by
                intro b' hm
                rcases hm with hm | hm
                · exact hm.1
                · cases hm
              have hcell : ∀ (j : Nat) c, (cs.drop o)[j]? = some c → ∃ u, arr[o + j]? = some u ∧ cs[o + j]? = some c := fun j c hj => by
                rw [List.getElem?_drop] at hj
                have hlt := (List.getElem?_eq_some_iff.1 hj).1
                exact ⟨_, Array.getElem?_eq_getElem (by omega), hj⟩
              refine .frz (.fp (fun j => (arr[o + j]?).getD (.bool true)) rfl (hS.ok.bnd b hMb) hnM (fun j c hj => ?_) (fun j c hj => ?_) (fun j c hj => ?_))
              · obtain ⟨u, h1, h2⟩ := hcell j c hj
                rw [h1]
                exact (cell_of_blk harr).trans h1
              · obtain ⟨u, h1, h2⟩ := hcell j c hj
                rw [h1]
                exact hone _ _ h1
              · obtain ⟨u, h1, h2⟩ := hcell j c hj
                rw [h1]
                exact ((hcells _ c u h2 h1).pure (pureL_get hp _ _ h2)).keep (Nat.le_refl _) fun b' _ hm => ⟨rfl, fun h => hm (hMs b' h)⟩
            · exact (hS.slots t).trans tr hS.ok
          · cases h
        · cases h
      · cases h
    · cases h
  · rename_i s z
    cases h
    refine fin X rfl hS.ok hS.trans (by split <;> exact hS.hH) fun t => ?_
    split
    · rename_i hc
      rw [get_put]
      split
      · rename_i hst
        subst hst
        have hsl := hS.slots s
        rw [isNilSl_eq hc] at hsl
        rw [hsl.sc_inv]
        exact .frz (.slE (by simp))
      · exact hS.slots t
    · exact hS.slots t

end
end Go.Abs

/- A range over a function. -/
namespace Go.Abs

theorem OutPost.wider {X : Cx} {L L' : List Nat} (hL : ∀ (j l : Nat), L[j]? = some l → L'[j]? = some l) {o : Out} {H : List Ent} {e : Ending} {w : World} (h : OutPost X L o H e w) : OutPost X L' o H e w := by
  obtain ⟨X', h1, h2, h3, h4, h5⟩ := h
  refine ⟨X', h1, h2, h3, h4, ?_⟩
  cases o with
  | ret v => obtain ⟨cv, he, hv⟩ := h5; exact ⟨cv, he, hv.wider hL⟩
  | pan v => obtain ⟨cv, he, hv⟩ := h5; exact ⟨cv, he, hv.wider hL⟩

section
variable {P : Program} {E : Env} {C : CF} {Y : List YF} {L : List Nat} {F : Fence} {nt : Nat} {X0 : Cx}

/-- The machine does with this code what is said. -/
def DSound (P : Program) (E : Env) (C : CF) (Y : List YF) (L : List Nat) (nt : Nat) (D : St → Option (Ex × St)) (c : Code) : Prop :=
  ∀ (F : Fence) (X0 : Cx), Base P E C Y L F X0 → ∀ (st : St) (ex : Ex) (st' : St) (a : Act) (X : Cx) (Q : Exit → Act → World → Prop), StRel X0 L nt st a X → D st = some (ex, st') → Onward L (StRel X0 L nt) ex st' Q → c.wpIn F 0 P Q a X.w

theorem putAll_rel {X : Cx} {L L' : List Nat} : ∀ {ps : List Nat} {args : List AV} {tm : Slots} {cargs : List Value} {tmps : Array Value}, SRel X L tm tmps → AV.pureL args = true → cargs.length = args.length → (∀ (i : Nat) a v, args[i]? = some a → cargs[i]? = some v → VRel X L' a v) →
    ps.all (fun p => decide (p < tmps.size)) = true → SRel X L (tm.putAll ps args) ((ps.zip cargs).foldl (fun tmps x => tmps.setIfInBounds x.1 x.2) tmps) ∧ ((ps.zip cargs).foldl (fun tmps x => tmps.setIfInBounds x.1 x.2) tmps).size = tmps.size
  | [], args, tm, cargs, tmps, hS, _, _, _, _ => by
    cases args <;> exact ⟨hS, rfl⟩
  | p :: ps, [], tm, [], tmps, hS, _, _, _, _ => ⟨hS, rfl⟩
  | p :: ps, [], tm, c :: cs, tmps, _, _, hl, _, _ => by simp at hl
  | p :: ps, a :: args, tm, [], tmps, _, _, hl, _, _ => by simp at hl
  | p :: ps, a :: args, tm, c :: cs, tmps, hS, hpu, hl, hp, hps => by
    simp only [AV.pureL, Bool.and_eq_true] at hpu
    simp only [List.all_cons, Bool.and_eq_true, decide_eq_true_eq] at hps
    have h1 := SRel.put (a := { tmps := tmps, defers := [] }) hS (dst := some p) (v := a) (cv := c) (fun d hd => by cases hd; exact hps.1) (.frz ((hp 0 a c rfl rfl).pure hpu.1))
    have h2 := putAll_rel (ps := ps) (args := args) (tm := tm.put p a) (cargs := cs) (tmps := tmps.setIfInBounds p c) h1 hpu.2 (by simpa using hl) (fun i a v ha hv => hp (i + 1) a v (by simpa using ha) (by simpa using hv)) (by simpa using hps.2)
    exact ⟨h2.1, by simpa using h2.2⟩

theorem zipFold (ps : List Nat) (cargs : Array Value) (tmps : Array Value) : (ps.toArray.zip cargs).foldl (fun tmps x => tmps.setIfInBounds x.1 x.2) tmps = (ps.zip cargs.toList).foldl (fun tmps x => tmps.setIfInBounds x.1 x.2) tmps := by
  rw [← Array.foldl_toList, Array.toList_zip]

/-- The record of a loop is there still. -/
theorem loop_kept {X X' : Cx} (hX : X.Ok) (hX' : X'.Ok) (t : Trans X X') {k l : Nat} {r : Loop} (hE : X.E[k]? = some (.loop l r)) :
    X'.E[k]? = some (.loop l r) ∧ ∃ s p, X'.H[k]? = some (.loop s p) ∧ X'.w.heap[l]? = some (.loop { r with state := s, pending := p.map Jmp.code }) := by
  obtain ⟨h, hH, hr⟩ := hX.hent hE
  cases h <;> simp only [EntRel] at hr
  obtain ⟨h', e', hH', hE', ht⟩ := t.turn k _ _ hH hE
  cases h' <;> cases e' <;> simp only [Turns] at ht
  obtain ⟨rfl, rfl⟩ := ht
  have := hX'.ent k _ _ hH' hE'
  simp only [EntRel] at this
  exact ⟨hE', _, _, hH', this.2⟩

/-- The record of a loop is written. -/
theorem loop_put {X : Cx} (hX : X.Ok) {k l : Nat} {r : Loop} (hE : X.E[k]? = some (.loop l r)) (s : LoopState) (p : Option Jmp) :
    ∃ X', X'.w = X.w.putObj l (.loop { r with state := s, pending := p.map Jmp.code }) ∧ X'.Ok ∧ Trans X X' ∧ X'.H = X.H.set k (.loop s p) ∧ X'.E = X.E := by
  obtain ⟨h, hH, hr⟩ := hX.hent hE
  cases h <;> simp only [EntRel] at hr
  have hl := hX.bnd l hr.1
  have hsz : Later X.w (X.w.putObj l (.loop { r with state := s, pending := p.map Jmp.code })) := ⟨by simp, rfl, rfl⟩
  have hk : ∀ b, b < X.w.heap.size → (EC.loop l r).blk ≠ some b → (X.w.putObj l (.loop { r with state := s, pending := p.map Jmp.code })).heap[b]? = X.w.heap[b]? := fun b _ hb => World.putObj_heap_other fun e => hb (by rw [e]; rfl)
  have t : Trans X (X.put (X.w.putObj l (.loop { r with state := s, pending := p.map Jmp.code })) k (.loop l r) (.loop s p) (.loop l r)) := Cx.put_trans hX hH hE hsz hk (fun b hb => .inl hb) ⟨rfl, rfl⟩
  have hok : (X.put (X.w.putObj l (.loop { r with state := s, pending := p.map Jmp.code })) k (.loop l r) (.loop s p) (.loop l r)).Ok := Cx.put_ok hX hH hE hsz hk (fun b hb => .inl hb) (fun b hb => by cases hb; simpa using hl) ⟨rfl, rfl⟩
    (fun _ => ⟨.inr rfl, World.putObj_heap_same hl⟩)
  refine ⟨_, rfl, hok, t, rfl, ?_⟩
  simp only [Cx.put]
  obtain ⟨hlt, hget⟩ := List.getElem?_eq_some_iff.1 hE
  rw [← hget, List.set_getElem_self]

/-- A round of the loop. -/
theorem round_sound {asg body : St → Option (Ex × St)} {casg cbody : Code} (hsa : DSound P E C Y L nt asg casg) (hsb : DSound P E C Y L nt body cbody) (hra : DRef asg) (hrb : DRef body)
    {X1 : Cx} (B : Base P E C Y L Fence.wide X1) {k l : Nat} {r : Loop} (hE : X1.E[k]? = some (.loop l r)) {ps : List Nat} {tm : Slots} (hrp : r.params = ps.toArray) (hrs : r.assign = casg) (hrbd : r.body = cbody) (hsz : nt ≤ r.tmps.size)
    (hps : ps.all (fun p => decide (p < nt)) = true) (hS : SRel X1 L tm r.tmps) {X : Cx} {L' : List Nat} {args : List AV} {cargs : Array Value} {o : Out} {H' : List Ent} (t : Trans X1 X) (hX : X.Ok) (ha : ARel X L' args cargs)
    (h : roundOf ps tm k asg body args X.H = some (o, H')) :
    ∃ fn tmps asg body, (Instr.yield l cargs).run P X.w = .ok (.round l fn tmps asg body) X.w ∧ RoundIn Fence.wide 0 P l fn tmps asg body X.w (OutPost X L o H') := by
  obtain ⟨hEX, s, p, hHX, hheap⟩ := loop_kept B.ok0 hX t hE
  unfold roundOf at h
  split at h
  · rename_i hHk
    rw [hHX] at hHk
    cases hHk
    split at h
    · rename_i hc
      split at h
      · rename_i st1 h1
        split at h
        · rename_i hst1
          split at h
          · rename_i ex2 st2 h2
            have hsize : cargs.size = ({ r with state := LoopState.ready, pending := Option.map Jmp.code none } : Loop).params.size := by
              simp [hrp, ha.1, hc.1]
            refine ⟨_, _, _, _, run_yield hheap hsize, ?_⟩
            have hSX : SRel X L tm r.tmps := hS.trans t B.ok0
            obtain ⟨hp1, hp2⟩ := putAll_rel (ps := ps) (args := args) (L' := L') (cargs := cargs.toList) hSX hc.2 (by simpa using ha.1) (fun i a v hi hv => ha.2 i a v hi (by simpa using hv)) (by simp only [List.all_eq_true, decide_eq_true_eq] at hps ⊢; exact fun p hp => Nat.lt_of_lt_of_le (hps p hp) hsz)
            have B' : Base P E C Y L (Fence.wide.inRound l) X := ⟨B.tok, B.cs, B.cr, .inr ⟨l, rfl⟩, hX, B.gok.trans t B.ok0, B.ys.later t, fun l' hl' => by cases hl'; exact ⟨k, r, _, _, hEX, hHX⟩⟩
            refine roundIn_of_wpIn trivial ?_
            simp only [hrp, hrs, hrbd, zipFold]
            refine hsa _ X B' _ _ _ _ X _ ?_ h1 ?_
            · exact ⟨hX, Trans.refl hX, rfl, hp1, (by rw [hp2]; exact hsz), hX.len.symm, .refl _ _, ⟨[], rfl, List.nodup_nil, fun r hr => by cases hr⟩⟩
            · intro a1 Xa hSa
              obtain ⟨hEa, s1, p1, hHa, hheapa⟩ := loop_kept hX hSa.ok hSa.trans hEX
              rw [hSa.hH, hst1] at hHa
              cases hHa
              refine ⟨_, run_beginRound hheapa rfl, ?_⟩
              obtain ⟨Xb, hwb, hokb, htb, hHb, hEb⟩ := loop_put hSa.ok hEa .busy none
              rw [show ({ ({ r with state := LoopState.ready, pending := Option.map Jmp.code none } : Loop) with state := LoopState.busy } : Loop) = { r with state := LoopState.busy, pending := Option.map Jmp.code none } from rfl, ← hwb]
              have r1 := hra _ _ _ (Nat.le_refl _) h1
              refine hsb _ X B' { st1 with H := st1.H.set k (.loop .busy none) } ex2 st2 a1 Xb _ ?_ h2 ?_
              · refine ⟨hokb, hSa.trans.trans htb, by rw [hHb, hSa.hH], hSa.slots.trans htb hSa.ok, hSa.size, hSa.b, ?_, hSa.defs.trans htb hSa.ok⟩
                exact hSa.ref.trans (.set fun h _ _ n _ => rfl)
              · -- the end of the round
                have last : ∀ (jump : Option Jmp) (s' : LoopState), s' = (if (jump.map Jmp.code).isNone then .ready else .done) → ∀ a2 Xc, StRel X L nt st2 a2 Xc →
                    ∃ v w', (Instr.endRound l (jump.map Jmp.code)).run P Xc.w = .ok v w' ∧ OutPost X L (.ret (.sc (.bool jump.isNone))) ((st2.H.set k (.loop s' jump)).take X.H.length) (.returned v) w' := by
                  intro jump s' hs' a2 Xc hSc
                  obtain ⟨hEc, s2, p2, hHc, hheapc⟩ := loop_kept hX hSc.ok hSc.trans hEX
                  refine ⟨_, _, run_endRound _ hheapc, ?_⟩
                  obtain ⟨Xd, hwd, hokd, htd, hHd, hEd⟩ := loop_put hSc.ok hEc s' jump
                  have hbX : X.H.length = st2.b := by rw [hSc.b, hX.len]
                  have hun : ∀ (j : Nat) e, j < X.H.length → Xd.H[j]? = some e → Ent.under X.H.length e = true := by
                    intro j e hj he
                    rw [hHd, List.getElem?_set] at he
                    split at he
                    · split at he
                      · cases he; rfl
                      · cases he
                    · exact hSc.old hX (by omega) he (by omega)
                  refine ⟨Xd.cut X.H.length, ?_, by simp [Cx.cut, hHd, hSc.hH], Cx.cut_ok hokd hun, (hSc.trans.trans htd).cut (by rw [hX.len]; exact Nat.le_refl _), _, rfl, ?_⟩
                  · show Xd.w = _
                    rw [hwd, hs']
                  · cases jump <;> exact .frz (.sc _)
                unfold roundEnd at h
                split at h <;> cases h
                · intro a2 Xc hSc
                  exact last none .ready rfl a2 Xc hSc
                · intro a2 Xc hSc
                  exact last (some .ret) .done rfl a2 Xc hSc
                · intro a2 Xc hSc
                  exact last (some (.exit _)) .done rfl a2 Xc hSc
          · cases h
        · cases h
      · cases h
    · cases h
  · cases h

/-- The loop's record is laid. -/
theorem enter_loop (B : Base P E C Y L F X0) {st : St} {a : Act} {X : Cx} (hS : StRel X0 L nt st a X) (fn : FuncId) (ps : Array Tmp) (casg cbody : Code) :
    ∃ (l : Nat) (mk : List Deferred) (w1 : World) (r : Loop), (Instr.enterLoop fn a.tmps ps casg cbody F.round).run P X.w = .ok (l, mk) w1 ∧ r.params = ps ∧ r.assign = casg ∧ r.body = cbody ∧ r.tmps = a.tmps ∧
      (X.push w1 (.loop .ready none) (.loop l r)).Ok ∧ Trans X (X.push w1 (.loop .ready none) (.loop l r)) ∧ DefOk X0 (mk ++ a.defers) (X.push w1 (.loop .ready none) (.loop l r)) := by
  have key : ∀ (l : Nat) (w1 : World) (r : Loop), X.w.heap.size ≤ l → w1.heap[l]? = some (.loop { r with state := .ready, pending := none }) → Later X.w w1 → (∀ b, b < X.w.heap.size → w1.heap[b]? = X.w.heap[b]?) →
      (X.push w1 (.loop .ready none) (.loop l r)).Ok ∧ Trans X (X.push w1 (.loop .ready none) (.loop l r)) := by
    intro l w1 r hl hh hsz hk
    have hn : ∀ b, (EC.loop l r).blk = some b → X.w.heap.size ≤ b := fun b hb => by cases hb; exact hl
    exact ⟨Cx.push_ok hS.ok hsz hk hn (fun b hb => by cases hb; exact (Array.getElem?_eq_some_iff.1 hh).1) (fun _ => ⟨.inr rfl, hh⟩), Cx.push_trans hS.ok hsz hk hn⟩
  rcases hF : F.round with _ | l0
  · obtain ⟨rec, hrec⟩ : ∃ rec : Loop, rec = { state := .ready, pending := none, fn, tmps := a.tmps, params := ps, assign := casg, body := cbody, defers := X.w.heap.size } := ⟨_, rfl⟩
    have hrun := run_enterLoop_outer (P := P) (w := X.w) fn a.tmps ps casg cbody
    rw [← hrec] at hrun
    have hL : ((X.w.alloc (.deferred (some []))).alloc (.loop rec)).heap[X.w.heap.size + 1]? = some (.loop rec) := by
      have := World.alloc_heap_new (X.w.alloc (.deferred (some []))) (.loop rec)
      rwa [World.size_alloc] at this
    have hD : ((X.w.alloc (.deferred (some []))).alloc (.loop rec)).heap[X.w.heap.size]? = some (.deferred (some [])) := by
      show ((X.w.heap.push (.deferred (some []))).push (.loop rec))[X.w.heap.size]? = some (.deferred (some []))
      rw [Array.getElem?_push, if_neg (by simp), Array.getElem?_push, if_pos rfl]
    have hk : ∀ b, b < X.w.heap.size → ((X.w.alloc (.deferred (some []))).alloc (.loop rec)).heap[b]? = X.w.heap[b]? := fun b hb => by
      show ((X.w.heap.push (.deferred (some []))).push (.loop rec))[b]? = X.w.heap[b]?
      rw [Array.getElem?_push, if_neg (by simp; omega), Array.getElem?_push, if_neg (by omega)]
    obtain ⟨k1, k2⟩ := key (X.w.heap.size + 1) ((X.w.alloc (.deferred (some []))).alloc (.loop rec)) rec (by omega) (by rw [hL, hrec]) ⟨by rw [World.size_alloc, World.size_alloc]; omega, rfl, rfl⟩ hk
    refine ⟨_, _, _, rec, hrun, by rw [hrec], by rw [hrec], by rw [hrec], by rw [hrec], k1, k2, ?_⟩
    obtain ⟨rs, h1, h2, h3⟩ := hS.defs.trans k2 hS.ok
    refine ⟨X.w.heap.size :: rs, by simp [h1, mark], List.nodup_cons.2 ⟨fun hm => ?_, h2⟩, fun r hr => ?_⟩
    · obtain ⟨rs', h1', _, h3'⟩ := hS.defs
      have : rs' = rs := by
        have hinj : Function.Injective mark := fun x y h => by simpa [mark] using h
        exact (List.map_inj_right (fun x y h => hinj h)).1 (h1'.symm.trans h1)
      subst this
      have := (Array.getElem?_eq_some_iff.1 (h3' _ hm).2).1
      omega
    · rcases List.mem_cons.1 hr with rfl | hr
      · exact ⟨hS.trans.size, hD⟩
      · exact h3 r hr
  · obtain ⟨k, r0, s, p, hE, hH⟩ := B.rd l0 hF
    obtain ⟨_, s', p', _, hheap⟩ := loop_kept B.ok0 hS.ok hS.trans hE
    have hrun := run_enterLoop_inner (P := P) hheap fn a.tmps ps casg cbody
    obtain ⟨rec, hrec⟩ : ∃ rec : Loop, rec = { state := .ready, pending := none, fn, tmps := a.tmps, params := ps, assign := casg, body := cbody, defers := ({ r0 with state := s', pending := Option.map Jmp.code p' } : Loop).defers } := ⟨_, rfl⟩
    rw [← hrec] at hrun
    have hL : (X.w.alloc (.loop rec)).heap[X.w.heap.size]? = some (.loop rec) := World.alloc_heap_new X.w (.loop rec)
    have hk : ∀ b, b < X.w.heap.size → (X.w.alloc (.loop rec)).heap[b]? = X.w.heap[b]? := fun b hb => by
      show (X.w.heap.push (.loop rec))[b]? = X.w.heap[b]?
      rw [Array.getElem?_push, if_neg (by omega)]
    obtain ⟨k1, k2⟩ := key X.w.heap.size (X.w.alloc (.loop rec)) rec (by omega) (by rw [hL, hrec]) ⟨by rw [World.size_alloc]; omega, rfl, rfl⟩ hk
    exact ⟨_, _, _, rec, hrun, by rw [hrec], by rw [hrec], by rw [hrec], by rw [hrec], k1, k2, by simpa using hS.defs.trans k2 hS.ok⟩

/-- The statement. -/
theorem rangeFn_sound {asg body : St → Option (Ex × St)} {casg cbody : Code} (hsa : DSound P E C Y L nt asg casg) (hsb : DSound P E C Y L nt body cbody) (hra : DRef asg) (hrb : DRef body)
    {f : Operand} {ps : List Nat} (hps : ps.all (fun p => decide (p < nt)) = true) (B : Base P E C Y L F X0) {st : St} {ex : Ex} {st' : St} {a : Act} {X : Cx} {Q : Exit → Act → World → Prop} (hS : StRel X0 L nt st a X)
    (h : rangeFn C Y (aval E.G st.tm f) ps asg body st = some (ex, st')) (hon : Onward L (StRel X0 L nt) ex st' Q) : (Code.rangeFunc f ps.toArray casg cbody).wpIn F 0 P Q a X.w := by
  have hlenB := hS.lenB B
  have hrf := rangeFn_ref B.cr B.ys.2.1 hra hrb st ex st' hlenB h
  have hX := hS.ok
  have hG := B.gok.trans hS.trans B.ok0
  have hLY : L.length = Y.length := B.ys.1
  have hwid : ∀ {l : Nat} (j l' : Nat), L[j]? = some l' → (L ++ [l])[j]? = some l' := fun j l' hj => getElem?_old hj
  unfold rangeFn at h
  split at h
  · rename_i g caps hfv
    split at h
    · rename_i v H' hcall
      have hev := aval_rel (L := L) hG hS.slots f
      rw [hfv] at hev
      obtain ⟨vs, hvs, hl, hp⟩ := hev.fn_inv
      refine wpIn_rangeFunc fun fn _ => ?_
      obtain ⟨l, mk, w1, r, hent, hrp, hras, hrb', hrt, hok1, ht1, hdef1⟩ := enter_loop B hS fn ps.toArray casg cbody
      obtain ⟨X1, hX1⟩ : ∃ X1, X1 = X.push w1 (.loop .ready none) (.loop l r) := ⟨_, rfl⟩
      rw [← hX1] at hok1 ht1 hdef1
      have hw1 : X1.w = w1 := by rw [hX1]; rfl
      have hH1 : X1.H = st.H ++ [.loop .ready none] := by rw [hX1, ← hS.hH]; rfl
      have hE1 : X1.E[st.H.length]? = some (.loop l r) := by rw [hX1, ← hS.hH, ← hX.len]; simp [Cx.push]
      obtain ⟨hcf, hcs⟩ := B.cs _ _ _ _ _ _ hcall
      have hres : (resolve a.eval (rangeCall f l) 0).run P w1 = .ok { target := .fn (.func g) vs, args := #[.func (.yield l) #[] #[]] } w1 := by
        simp only [resolve, rangeCall]
        rw [hvs]
        simp only [Deferred.ofValue, Sem.run_pure, List.map_toArray, List.map_cons, List.map_nil, Array.empty_append]
        rfl
      have hinv : (invoke (Target.fn (.func g) vs) #[.func (.yield l) #[] #[]]).run P w1 = .ok (.enter g (#[.func (.yield l) #[] #[]] ++ vs)) w1 := by
        simp only [invoke, hcf]
      refine ⟨l, mk, w1, _, w1, g, _, w1, hent, hres, fun f' _ => B.wf.fn f', hinv, fun hd => by simp [B.wf.depth] at hd, ?_⟩
      have hargs : ARel X1 (L ++ [l]) (.yl Y.length :: caps) (#[.func (.yield l) #[] #[]] ++ vs) := by
        refine ⟨by simp [hl]; omega, fun i x v hx hv => ?_⟩
        cases i with
        | zero =>
          rw [Array.getElem?_append_left (by simp)] at hv
          simp at hx hv
          subst hx
          subst hv
          refine .yl ?_
          rw [← hLY]
          simp
        | succ i =>
          have hv' : vs[i]? = some v := by
            rw [Array.getElem?_append_right (by simp)] at hv
            simpa using hv
          exact ((hp i x v (by simpa using hx) hv').wider hwid).trans ht1 hX
      have hYs : YSound P X1 (L ++ [l]) (Y ++ [roundOf ps st.tm st.H.length asg body]) := by
        refine ⟨by simp [hLY], fun y hy args H o H' hr => ?_, fun j y l' hy hl' X' L' args cargs o H' t' hX' ha hr => ?_⟩
        · rcases List.mem_append.1 hy with hy | hy
          · exact B.ys.2.1 y hy _ _ _ _ hr
          · cases List.mem_singleton.1 hy
            exact roundOf_ref hra hrb hr
        · rcases getElem?_push hy with hy | ⟨hj, rfl⟩
          · have hlt := (List.getElem?_eq_some_iff.1 hy).1
            rw [List.getElem?_append_left (by omega)] at hl'
            obtain ⟨fn', tmps', asg', body', h1, h2⟩ := B.ys.2.2 j y l' hy hl' X' L' args cargs o H' ((hS.trans.trans ht1).trans t') hX' ha hr
            exact ⟨fn', tmps', asg', body', h1, h2.mono fun e w he => he.wider hwid⟩
          · have hll : l' = l := by
              rcases getElem?_push hl' with h1 | ⟨_, h1⟩
              · have := (List.getElem?_eq_some_iff.1 h1).1
                omega
              · exact h1
            subst hll
            have B1 : Base P E C Y L Fence.wide X1 := ⟨B.tok, B.cs, B.cr, .inl rfl, hok1, hG.trans ht1 hX, B.ys.later (hS.trans.trans ht1), fun l' hl' => by cases hl'⟩
            obtain ⟨fn', tmps', asg', body', h1, h2⟩ := round_sound hsa hsb hra hrb B1 hE1 hrp hras hrb' (by rw [hrt]; exact hS.size) hps (by rw [hrt]; exact hS.slots.trans ht1 hX) t' hX' ha hr
            exact ⟨fn', tmps', asg', body', h1, h2.mono fun e w he => he.wider hwid⟩
      have hcalls := hcs X1 (L ++ [l]) _ hH1 hok1 (hG.trans ht1 hX) hargs hYs
      rw [hw1] at hcalls
      refine (B.wf.calls hcalls).mono fun e w3 hpost => ?_
      obtain ⟨X6, rfl, hH6, hok6, ht6, cv, rfl, hcv⟩ := hpost
      obtain ⟨hE6, s6, p6, hHk6, hheap6⟩ := loop_kept hok1 hok6 ht6 hE1
      rw [hH6] at hHk6
      rw [hHk6] at h
      have hnb : s6 ≠ .busy := by
        rintro rfl
        simp at h
      have haft : afterLoop st (H'.take st.H.length) p6 = some (ex, st') := by
        cases s6 <;> first | exact absurd rfl hnb | exact h
      obtain ⟨X7, hw7, hok7, ht7, hH7, hE7⟩ := loop_put hok6 hE6 .exhausted p6
      refine ⟨_, _, run_endLoop hheap6 hnb, ?_⟩
      have hcr := B.cr _ _ _ _ _ _ hcall hYs.2.1
      have hun : ∀ (j : Nat) e, j < st.H.length → X7.H[j]? = some e → Ent.under st.H.length e = true := by
        intro j e hj he
        rw [hH7, List.getElem?_set_ne (by omega), hH6] at he
        obtain ⟨e0, hj0⟩ : ∃ e0, X.H[j]? = some e0 := ⟨_, List.getElem?_eq_getElem (by rw [hS.hH]; exact hj)⟩
        have hj1 : (st.H ++ [Ent.loop .ready none])[j]? = some e0 := by
          rw [← hS.hH]; exact getElem?_old hj0
        obtain ⟨h', h1, h2⟩ := hcr j _ (by simp; omega) hj1
        rw [he] at h1
        cases h1
        exact h2 _ (hX.under hj0 (by rw [hX.len, hS.hH]; exact Nat.le_refl _))
      have htr : Trans X X7 := ht1.trans (ht6.trans ht7)
      have hfinal : StRel X0 L nt { st with H := H'.take st.H.length } { a with defers := mk ++ a.defers } (X7.cut st.H.length) := by
        refine ⟨Cx.cut_ok hok7 hun, (hS.trans.trans htr).cut ?_, ?_, fun t => ((hS.slots t).trans htr hX).cut ((hS.slots t).under (by rw [hX.len, hS.hH]; exact Nat.le_refl _)), hS.size, hS.b, ?_, ?_⟩
        · rw [← hS.hH, ← hX.len]
          exact hS.trans.lenE B.ok0
        · simp only [Cx.cut, hH7, hH6]
          rw [List.take_set_of_le (Nat.le_refl _)]
        · refine hS.ref.trans ?_
          have hlt : st.b ≤ (st.H ++ [Ent.loop .ready none]).length := by simp; omega
          exact ((RefL.push st.b st.H _).trans (hcr.less hlt)).trans (.take hlenB)
        · obtain ⟨rs, h1, h2, h3⟩ := hdef1.trans (ht6.trans ht7) hok1
          exact ⟨rs, h1, h2, h3⟩
      have hw7' : (X7.cut st.H.length).w = (X6.w.putObj l (.loop { ({ r with state := s6, pending := p6.map Jmp.code } : Loop) with state := .exhausted })) := hw7
      rw [← hw7']
      unfold afterLoop at haft
      cases p6 with
      | none =>
        cases haft
        exact hon _ _ hfinal
      | some j =>
        cases j with
        | ret =>
          cases haft
          exact wpIn_ret (hon _ _ hfinal)
        | exit id =>
          cases haft
          exact wpIn_exit (hon _ _ hfinal)
    · cases h
  · cases h

end
end Go.Abs

/- All code; all functions. -/
namespace Go.Abs

/-- The written form of code is in order. -/
def AC.fine (nt : Nat) : AC → Bool
  | .skip | .exit _ | .ret => true
  | .region _ ops d => ops.all (fun a => a.fine nt ops) && (!d || drawOk ops)
  | .seq a b => a.fine nt && b.fine nt
  | .cond _ a b => a.fine nt && b.fine nt
  | .block _ a => a.fine nt
  | .loop a => a.fine nt
  | .rangeFunc _ ps a b => ps.all (fun p => decide (p < nt)) && (a.fine nt && b.fine nt)
  | .ghost _ a => a.fine nt

section
variable {P : Program} {E : Env} {C : CF} {Y : List YF} {L : List Nat} {F : Fence} {nt : Nat} {X0 : Cx}

theorem Onward.then {S : St → Act → Cx → Prop} {ex : Ex} {st : St} {K : Act → World → Prop} {Q : Exit → Act → World → Prop} (hn : ex = .normal → ∀ a' X', S st a' X' → K a' X'.w) (h : ex ≠ .normal → Onward L S ex st Q) : Onward L S ex st (Exit.then K Q) := by
  cases ex with
  | normal => exact hn rfl
  | exit id => exact h (by simp)
  | ret => exact h (by simp)
  | pan v => exact h (by simp)

theorem least {p : Nat → Prop} (h : ∃ m, p m) : ∃ m, p m ∧ ∀ k, p k → m ≤ k := by
  obtain ⟨m, hm⟩ := h
  induction m using Nat.strongRecOn with
  | _ m ih =>
    by_cases hk : ∃ k, k < m ∧ p k
    · obtain ⟨k, h1, h2⟩ := hk
      exact ih k h1 h2
    · exact ⟨m, hm, fun k hp => Nat.le_of_not_lt fun hlt => hk ⟨k, hlt, hp⟩⟩

theorem loop_sound {D : St → Option (Ex × St)} {c : Code} (hD : DSound P E C Y L nt D c) (n : Nat) : DSound P E C Y L nt (loopIter n D) (.loop c) := by
  intro F X0 B st ex st' a X Q hS h hon
  let J : Nat → Act → World → Prop := fun m a w => ∃ st1 X1, X1.w = w ∧ StRel X0 L nt st1 a X1 ∧ loopIter m D st1 = some (ex, st')
  have hμ : ∃ μ : Act → World → Nat, ∀ a w, (∃ m, J m a w) → J (μ a w) a w ∧ ∀ k, J k a w → μ a w ≤ k := by
    have : ∀ a w, ∃ m, (∃ m, J m a w) → J m a w ∧ ∀ k, J k a w → m ≤ k := fun a w => by
      by_cases h : ∃ m, J m a w
      · obtain ⟨m, h1, h2⟩ := least h
        exact ⟨m, fun _ => ⟨h1, h2⟩⟩
      · exact ⟨0, fun h' => absurd h' h⟩
    exact ⟨fun a w => (this a w).choose, fun a w => (this a w).choose_spec⟩
  obtain ⟨μ, hμ⟩ := hμ
  refine wpIn_loop (fun a w => ∃ m, J m a w) μ ⟨n, st, X, rfl, hS, h⟩ fun a1 w1 hJ => ?_
  obtain ⟨⟨st1, X1, rfl, hS1, h1⟩, hmin⟩ := hμ a1 w1 hJ
  generalize hm : μ a1 X1.w = m at h1 hmin ⊢
  cases m with
  | zero => simp [loopIter] at h1
  | succ m =>
    simp only [loopIter] at h1
    split at h1
    · rename_i st2 h2
      refine hD F X0 B st1 .normal st2 a1 X1 _ hS1 h2 (Onward.then (fun _ a' X' hS' => ?_) (fun h => absurd rfl h))
      have hJ' : J m a' X'.w := ⟨st2, X', rfl, hS', h1⟩
      exact ⟨⟨m, hJ'⟩, Nat.lt_succ_of_le ((hμ a' X'.w ⟨m, hJ'⟩).2 m hJ')⟩
    · rename_i hnot
      refine hD F X0 B st1 ex st' a1 X1 _ hS1 h1 (Onward.then (fun e => ?_) (fun _ => hon))
      subst e
      exact absurd h1 (hnot st')

theorem den_sound (hmix : P.follows .mixedOrders = true) (hC : CRef C) (hY : YRef Y) (n : Nat) : ∀ (ac : AC), ac.fine nt = true → DSound P E C Y L nt (den E C Y (loopIter n) ac) ac.erase
  | .skip, _ => fun F X0 B st ex st' a X Q hS h hon => by cases h; exact wpIn_skip (hon a X hS)
  | .exit id, _ => fun F X0 B st ex st' a X Q hS h hon => by cases h; exact wpIn_exit (hon a X hS)
  | .ret, _ => fun F X0 B st ex st' a X Q hS h hon => by cases h; exact wpIn_ret (hon a X hS)
  | .region id ops d, hf => fun F X0 B st ex st' a X Q hS h hon => by
    simp only [AC.fine, Bool.and_eq_true, List.all_eq_true] at hf
    simp only [den] at h
    cases d with
    | false =>
      refine region_sound B hf.1 hS ?_ hon
      split at h
      · rename_i h1; rw [h1, ← h]
      · rename_i h1; rw [h1]; simpa using h
      · cases h
    | true =>
      split at h
      · rename_i h1
        cases h
        exact draw_sound hmix B hf.1 (by simpa using hf.2) hS h1 hon
      · simp at h
      · cases h
  | .seq x y, hf => fun F X0 B st ex st' a X Q hS h hon => by
    simp only [AC.fine, Bool.and_eq_true] at hf
    simp only [den] at h
    refine wpIn_seq ?_
    split at h
    · rename_i st1 h1
      exact den_sound hmix hC hY n x hf.1 F X0 B st .normal st1 a X _ hS h1 (Onward.then (fun _ a' X' hS' => den_sound hmix hC hY n y hf.2 F X0 B st1 ex st' a' X' Q hS' h hon) (fun h => absurd rfl h))
    · rename_i hnot
      refine den_sound hmix hC hY n x hf.1 F X0 B st ex st' a X _ hS h (Onward.then (fun e => ?_) (fun _ => hon))
      subst e
      exact absurd h (hnot st')
  | .cond c x y, hf => fun F X0 B st ex st' a X Q hS h hon => by
    simp only [AC.fine, Bool.and_eq_true] at hf
    simp only [den] at h
    split at h
    · rename_i t hc
      have hv := aval_rel (B.gok.trans hS.trans B.ok0) hS.slots c
      rw [hc] at hv
      refine wpIn_cond_split hv.sc_inv (fun ht => ?_) (fun ht => ?_)
      · rw [if_pos ht] at h
        exact den_sound hmix hC hY n x hf.1 F X0 B st ex st' a X Q hS h hon
      · rw [ht] at h
        exact den_sound hmix hC hY n y hf.2 F X0 B st ex st' a X Q hS (by simpa using h) hon
    · cases h
  | .block id x, hf => fun F X0 B st ex st' a X Q hS h hon => by
    simp only [AC.fine] at hf
    simp only [den] at h
    refine wpIn_block ?_
    split at h
    · rename_i id' st1 h1
      refine den_sound hmix hC hY n x hf F X0 B st (.exit id') st1 a X _ hS h1 fun a' X' hS' => ?_
      simp only [Exit.inBlock]
      split at h
      · rename_i he
        cases h
        rw [if_pos he]
        exact hon a' X' hS'
      · rename_i he
        cases h
        rw [if_neg he]
        exact hon a' X' hS'
    · rename_i hnot
      refine den_sound hmix hC hY n x hf F X0 B st ex st' a X _ hS h ?_
      cases ex with
      | normal => exact hon
      | exit id' => exact absurd h (hnot id' st')
      | ret => exact hon
      | pan v => exact hon
  | .loop x, hf => by
    simp only [AC.fine] at hf
    exact fun F X0 B st ex st' a X Q hS h hon => loop_sound (den_sound hmix hC hY n x hf) n F X0 B st ex st' a X Q hS h hon
  | .rangeFunc f ps x y, hf => fun F X0 B st ex st' a X Q hS h hon => by
    simp only [AC.fine, Bool.and_eq_true] at hf
    exact rangeFn_sound (den_sound hmix hC hY n x hf.2.1) (den_sound hmix hC hY n y hf.2.2) (den_ref hC hY (fun D hD => loopIter_ref hD n) x) (den_ref hC hY (fun D hD => loopIter_ref hD n) y) hf.1 B hS h hon
  | .ghost g x, hf => fun F X0 B st ex st' a X Q hS h hon => by
    simp only [AC.fine] at hf
    simp only [den] at h
    split at h
    · rename_i st1 h1
      obtain ⟨X', hw, hS'⟩ := ghost_sound B.ok0 hS h1
      have := den_sound hmix hC hY n x hf F X0 B st1 ex st' a X' Q hS' h hon
      rw [hw] at this
      exact this
    · cases h

/-- The table of functions. -/
structure FOk (P : Program) (F : Nat → Option AFn) : Prop where
  fn : ∀ f A, F f = some A → ∃ fn, P.funcs[f]? = some fn ∧ (fn.name == "runtime.NumGoroutine") = false ∧ fn.body = some A.ac.erase ∧ A.ntmps ≤ fn.ntmps ∧ fn.results = A.results.toArray ∧ A.ac.fine A.ntmps = true

theorem run_callFunc_enter {f : Nat} {fn : Func} (hf : P.funcs[f]? = some fn) (hn : (fn.name == "runtime.NumGoroutine") = false) {c : Code} (hb : fn.body = some c) (w : World) (vs : Array Value) : (callFunc f vs).run P w = .ok (.enter f vs) w := by
  unfold callFunc
  simp only [Sem.run_bind, run_program, Result.andThen_ok, hf, hn, hb, Option.isNone_some, Bool.false_eq_true, if_false, Sem.run_pure]

/-- What a function hands back, one by one. -/
theorem results_one {T : TT} (hT : TOk P T) {X : Cx} (hX : X.Ok) {tm : Slots} {tmps : Array Value} (hS : SRel X L tm tmps) : ∀ {rs : List ResultVar} {vs : List AV}, results T tm X.H rs = some vs →
    ∃ us : List Value, (rs.mapM fun | ResultVar.tmp t => pure (tmps.getD t undef) | .cell a t => do loadVar t (← asAddr (tmps.getD a undef)) : Sem (List Value)).run P X.w = .ok us X.w ∧ us.length = vs.length ∧ ∀ (i : Nat) a v, vs[i]? = some a → us[i]? = some v → VRel X L a v
  | [], vs, h => by
    cases h
    exact ⟨[], rfl, rfl, fun i a v h => by simp at h⟩
  | .tmp t :: rs, vs, h => by
    simp only [results] at h
    obtain ⟨vs', h1, rfl⟩ := Option.map_eq_some_iff.1 h
    obtain ⟨us, h2, h3, h4⟩ := results_one hT hX hS h1
    refine ⟨tmps.getD t undef :: us, ?_, by simp [h3], fun i a v ha hv => ?_⟩
    · simp only [List.mapM_cons, Sem.run_bind, Sem.run_pure, Result.andThen_ok]
      rw [h2]
      rfl
    · cases i with
      | zero =>
        simp only [List.getElem?_cons_zero, Option.some.injEq] at ha hv
        subst ha
        subst hv
        exact hS t
      | succ i => exact h4 i a v (by simpa using ha) (by simpa using hv)
  | .cell ad t :: rs, vs, h => by
    simp only [results] at h
    obtain ⟨x, h0, h⟩ := Option.bind_eq_some_iff.1 h
    obtain ⟨vs', h1, rfl⟩ := Option.map_eq_some_iff.1 h
    obtain ⟨us, h2, h3, h4⟩ := results_one hT hX hS h1
    obtain ⟨u, h5, h6⟩ := aLoad_run hT hX h0 (hS ad)
    have h7 : (do loadVar t (← asAddr (tmps.getD ad undef)) : Sem Value).run P X.w = .ok u X.w := by
      generalize tmps.getD ad undef = v at h5
      unfold Instr.loadAt Instr.sureAddr at h5
      split at h5
      · exact h5
      · simp only [Sem.run_bind] at h5
        exact absurd h5 (by simp [stuck, Sem.run, Result.andThen])
    refine ⟨u :: us, ?_, by simp [h3], fun i a v ha hv => ?_⟩
    · simp only [List.mapM_cons, Sem.run_bind]
      simp only [Sem.run_bind] at h7
      rw [h7]
      simp only [Result.andThen_ok, h2, Sem.run_pure]
    · cases i with
      | zero => simp at ha hv; subst ha; subst hv; exact h6
      | succ i => exact h4 i a v (by simpa using ha) (by simpa using hv)

theorem results_run {T : TT} (hT : TOk P T) {X : Cx} (hX : X.Ok) {tm : Slots} {tmps : Array Value} (hS : SRel X L tm tmps) {fn : Func} {rs : List ResultVar} (hr : fn.results = rs.toArray) {vs : List AV} (h : Go.Abs.results T tm X.H rs = some vs) :
    ∃ u, (Go.results fn tmps).run P X.w = .ok u X.w ∧ VRel X L (pack vs) u := by
  obtain ⟨us, h1, h2, h3⟩ := results_one hT hX hS h
  have hrun : (Go.results fn tmps).run P X.w = .ok (if h : us.toArray.size = 1 then us.toArray[0] else .tuple us.toArray) X.w := by
    unfold Go.results
    rw [hr, Array.mapM_eq_mapM_toList]
    simp only [Sem.run_bind, map_eq_pure_bind, Sem.run_pure]
    exact congrArg (fun r : Result (List Value) => (r.andThen fun a w' => Result.ok a.toArray w').andThen fun a w' => Result.ok (if h : a.size = 1 then a[0] else Value.tuple a) w') h1
  refine ⟨_, hrun, ?_⟩
  rcases vs with _ | ⟨a, _ | ⟨b, vs⟩⟩ <;> rcases us with _ | ⟨u, _ | ⟨v, us⟩⟩ <;> simp only [List.length_nil, List.length_cons] at h2 <;> try omega
  · exact .tup rfl fun i c v h => by simp at h
  · exact h3 0 a u rfl rfl
  · rw [dif_neg (by simp)]
    exact .tup (by simpa using h2) fun i c x hc hx => h3 i c x hc (by simpa using hx)

/-- The loops' marks are taken up: nothing turns that anybody sees. -/
theorem FRel.recell {w w' : World} {M : Nat → Prop} (hs : w.heap.size ≤ w'.heap.size) (hk : ∀ b o, ¬ M b → w'.cell? ⟨b, o, none⟩ = w.cell? ⟨b, o, none⟩) {a : AV} {v : Value} (h : FRel w M a v) : FRel w' M a v := by
  induction h with
  | und v => exact .und v
  | sc v => exact .sc v
  | agg hl h1 _ ih => exact .agg hl h1 ih
  | tup hl _ ih => exact .tup hl ih
  | fn hl _ ih => exact .fn hl ih
  | ifc _ ih => exact .ifc ih
  | slE hf => exact .slE hf
  | nsl hn => exact .nsl hn
  | sl g hn hc hf hsp hb hM hz hg h1 _ ih =>
    exact .sl g hn hc hf hsp (Nat.lt_of_lt_of_le hb hs) hM hz (fun i j x c hx hc => by rw [hk _ _ hM]; exact hg i j x c hx hc) h1 ih
  | fp g hsp hb hM hg h1 _ ih =>
    exact .fp g hsp (Nat.lt_of_lt_of_le hb hs) hM (fun j c hc => by rw [hk _ _ hM]; exact hg j c hc) h1 ih

theorem VRel.recell {X : Cx} {w' : World} (hs : X.w.heap.size ≤ w'.heap.size) (hk : ∀ b o, ¬ X.M b → w'.cell? ⟨b, o, none⟩ = X.w.cell? ⟨b, o, none⟩) {L : List Nat} {a : AV} {v : Value} (h : VRel X L a v) : VRel (X.at w') L a v := by
  induction h with
  | frz h => exact .frz (h.recell hs hk)
  | agg hl h1 _ ih => exact .agg hl h1 ih
  | tup hl _ ih => exact .tup hl ih
  | fn hl _ ih => exact .fn hl ih
  | ifc _ ih => exact .ifc ih
  | yl h => exact .yl h
  | bp h1 hk h => exact .bp h1 hk h
  | bxs h1 hk h => exact .bxs h1 hk h
  | os h1 hk hv h => exact .os h1 hk hv h
  | op h1 hk hv h => exact .op h1 hk hv h

/-- A block of deferred calls is shut. -/
theorem shut_ok {X : Cx} (hX : X.Ok) {r : Nat} (hr : X.w.heap[r]? = some (.deferred (some []))) {X0 : Cx} (t : Trans X0 X) (h0 : X0.w.heap.size ≤ r) :
    (X.at (X.w.putObj r (.deferred none))).Ok ∧ Trans X0 (X.at (X.w.putObj r (.deferred none))) ∧ ∀ (L : List Nat) a v, VRel X L a v → VRel (X.at (X.w.putObj r (.deferred none))) L a v := by
  have hlt := (Array.getElem?_eq_some_iff.1 hr).1
  have hs : X.w.heap.size ≤ (X.w.putObj r (.deferred none)).heap.size := by simp
  have hother : ∀ b, b ≠ r → (X.w.putObj r (.deferred none)).heap[b]? = X.w.heap[b]? := fun b hb => World.putObj_heap_other hb
  have hcell : ∀ b o, (X.w.putObj r (.deferred none)).cell? ⟨b, o, none⟩ = X.w.cell? ⟨b, o, none⟩ := fun b o => by
    by_cases hb : b = r
    · subst hb
      simp only [World.cell?, World.putObj_heap_same hlt, hr]
    · simp only [World.cell?, hother b hb]
  have hv : ∀ (L : List Nat) a v, VRel X L a v → VRel (X.at (X.w.putObj r (.deferred none))) L a v := fun L a v h => h.recell hs fun b o _ => hcell b o
  have hnh : ∀ b, X.holds b → b ≠ r := fun b hb e => hX.notDeferred hr (e ▸ hb)
  refine ⟨⟨hX.len, fun b hm => Nat.lt_of_lt_of_le (hX.bnd b hm) hs, fun k h e hH hE => ?_, hX.apart⟩, ⟨t.later.trans ⟨hs, rfl, rfl⟩, fun b hb hn => ?_, t.mKeep, t.mNew, t.held, t.turn⟩, hv⟩
  · have hre := hX.ent k h e hH hE
    have hb : ∀ b, e.blk = some b → (X.w.putObj r (.deferred none)).heap[b]? = X.w.heap[b]? := fun b hb => hother b (hnh b ⟨k, e, hE, hb⟩)
    cases h <;> cases e <;> simp only [EntRel] at hre ⊢
    · obtain ⟨hm, arr, T, h1, h2, h4, h3⟩ := hre
      exact ⟨hm, arr, T, by show (X.w.putObj r (.deferred none)).heap[_]? = _; rw [hb _ rfl]; exact h1, h2, h4, fun j c v hc hvv => hv _ _ _ (h3 j c v hc hvv)⟩
    · obtain ⟨hz, hl, h⟩ := hre
      refine ⟨hz, hl, ?_⟩
      rcases h with h | ⟨b, cap, arr, T, rfl, hm, h3, h4, h5, h7, h6⟩
      · exact .inl h
      · refine .inr ⟨b, cap, arr, T, rfl, hm, by show (X.w.putObj r (.deferred none)).heap[_]? = _; rw [hb _ rfl]; exact h3, h4, h5, h7, fun i j x c hx hc => ?_⟩
        obtain ⟨v, h8, h9⟩ := h6 i j x c hx hc
        exact ⟨v, h8, hv _ _ _ h9⟩
    · exact ⟨hre.1, by show (X.w.putObj r (.deferred none)).heap[_]? = _; rw [hb _ rfl]; exact hre.2⟩
  · show (X.w.putObj r (.deferred none)).heap[b]? = _
    rw [hother b (by omega)]
    exact t.same b hb hn

/-- The marks are taken up, one behind the other. -/
theorem leaves_marks {fn : Func} {tmps : Array Value} {R : Ending → World → Prop} {u : FrameMode} (hu : u ≠ .run) {X0 : Cx} {K : Cx → Prop} (hK : ∀ X r, K X → X.w.heap[r]? = some (.deferred (some [])) → X0.w.heap.size ≤ r → K (X.at (X.w.putObj r (.deferred none))))
    (hR : ∀ X, K X → LeavesInM Fence.wide 0 P fn tmps R [] u X.w) : ∀ (rs : List Nat) (X : Cx), K X → rs.Nodup → (∀ r ∈ rs, X0.w.heap.size ≤ r ∧ X.w.heap[r]? = some (.deferred (some []))) → LeavesInM Fence.wide 0 P fn tmps R (rs.map mark) u X.w
  | [], X, hX, _, _ => hR X hX
  | r :: rs, X, hX, hn, hr => by
    obtain ⟨h1, h2⟩ := hr r (List.mem_cons_self ..)
    obtain ⟨hnr, hn'⟩ := List.nodup_cons.1 hn
    refine ⟨hu, .inl ⟨r, _, rfl, run_takeDeferred h2, ?_⟩⟩
    refine leaves_marks hu hK hR rs (X.at (X.w.putObj r (.deferred none))) (hK X r hX h2 h1) hn' fun s hs => ?_
    obtain ⟨h3, h4⟩ := hr s (List.mem_cons_of_mem _ hs)
    refine ⟨h3, ?_⟩
    show (X.w.putObj r (.deferred none)).heap[s]? = _
    rw [World.putObj_heap_other (show s ≠ r from fun e => hnr (by rw [← e]; exact hs))]
    exact h4

theorem init_get : ∀ (args : List AV) (i t : Nat), (Slots.init i args).get t = if i ≤ t then (args[t - i]?).getD .und else .und
  | [], i, t => by simp [Slots.init, Slots.get]
  | v :: vs, i, t => by
    by_cases h : i = t
    · subst h
      simp [Slots.init, Slots.get]
    · simp only [Slots.init, Slots.get, beq_ne h, cond_false, init_get vs (i + 1) t]
      by_cases hl : i ≤ t
      · have h1 : i + 1 ≤ t := by omega
        rw [if_pos hl, if_pos h1, show t - i = (t - (i + 1)) + 1 from by omega]
        simp
      · rw [if_neg hl, if_neg (by omega)]

theorem init_rel {X : Cx} {args : List AV} {cargs : Array Value} (ha : ARel X L args cargs) (n : Nat) : SRel X L (Slots.init 0 args) (cargs ++ Array.replicate n undef) := by
  intro t
  rw [init_get, if_pos (Nat.zero_le _)]
  by_cases ht : t < args.length
  · have h1 : args[t]? = some args[t] := List.getElem?_eq_getElem ht
    have h2 : cargs[t]? = some (cargs[t]'(by rw [ha.1]; exact ht)) := Array.getElem?_eq_getElem _
    have := ha.2 t _ _ h1 h2
    simp only [Nat.sub_zero, h1, Option.getD_some, Array.getD_eq_getD_getElem?]
    rw [Array.getElem?_append_left (by rw [ha.1]; exact ht), h2]
    exact this
  · simp only [Nat.sub_zero, List.getElem?_eq_none (Nat.le_of_not_lt ht), Option.getD_none]
    exact .frz (.und _)

/-- What holds of the machine while the marks are taken up. -/
structure Out1 (X : Cx) (L : List Nat) (st : St) (tmps : Array Value) (X2 : Cx) : Prop where
  ok : X2.Ok
  trans : Trans X X2
  hH : X2.H = st.H
  slots : SRel X2 L st.tm tmps

theorem callN_sound (hT : TOk P E.T) {F : Nat → Option AFn} (hF : FOk P F) (hmix : P.follows .mixedOrders = true) : ∀ n, CSound P E.G (callN E F n)
  | 0 => fun f args H Y o H' h => by simp [callN] at h
  | n + 1 => fun f args H Y o H' h => by
    simp only [callN] at h
    split at h
    · cases h
    · rename_i A hA
      obtain ⟨fn, hf, hname, hb, hnt, hres, hfine⟩ := hF.fn f A hA
      refine ⟨fun w vs => run_callFunc_enter hf hname hb w vs, fun X L cargs hXH hX hG ha hY => ?_⟩
      subst hXH
      refine callsIn_of_wp_marks hf hb trivial ?_
      have B : Base P E (callN E F n) Y L Fence.wide X := ⟨hT, callN_sound hT hF hmix n, callN_ref n, .inl rfl, hX, hG, hY, fun l hl => by cases hl⟩
      have hS0 : StRel X L A.ntmps { tm := Slots.init 0 args, H := X.H, b := X.H.length } { tmps := cargs ++ Array.replicate (fn.ntmps - cargs.size) undef, defers := [] } X :=
        ⟨hX, Trans.refl hX, rfl, init_rel ha _, by simp; omega, hX.len.symm, .refl _ _, ⟨[], rfl, List.nodup_nil, fun r hr => by cases hr⟩⟩
      -- out of a state that is left
      have fin : ∀ st1 a1 X1 (mode : FrameMode), StRel X L A.ntmps st1 a1 X1 → mode ≠ .run → ∀ K : Cx → Prop, K X1 → (∀ X r, K X → (∀ L a v, VRel X L a v → VRel (X.at (X.w.putObj r (.deferred none))) L a v) → K (X.at (X.w.putObj r (.deferred none)))) →
          (∀ X2, Out1 X L st1 a1.tmps X2 → K X2 → LeavesInM Fence.wide 0 P fn a1.tmps (OutPost X L o H') [] mode X2.w) → LeavesInM Fence.wide 0 P fn a1.tmps (OutPost X L o H') a1.defers mode X1.w := by
        intro st1 a1 X1 mode hS1 hmode K hK1 hK hR
        obtain ⟨rs, h1, h2, h3⟩ := hS1.defs
        rw [h1]
        refine leaves_marks (X0 := X) hmode (K := fun X2 => Out1 X L st1 a1.tmps X2 ∧ K X2) (fun X2 r h hr hl => ?_) (fun X2 h => hR X2 h.1 h.2) rs X1 ⟨⟨hS1.ok, hS1.trans, hS1.hH, hS1.slots⟩, hK1⟩ h2 h3
        obtain ⟨s1, s2, s3⟩ := shut_ok h.1.ok hr h.1.trans hl
        exact ⟨⟨s1, s2, h.1.hH, fun t => s3 L _ _ (h.1.slots t)⟩, hK X2 r h.2 s3⟩
      have hcut : ∀ st1 a1 X1 X2, StRel X L A.ntmps st1 a1 X1 → Out1 X L st1 a1.tmps X2 → (X2.cut X.H.length).Ok ∧ Trans X (X2.cut X.H.length) ∧ (X2.cut X.H.length).H = st1.H.take X.H.length := by
        intro st1 a1 X1 X2 hS1 hO
        refine ⟨Cx.cut_ok hO.ok fun k e hk he => ?_, hO.trans.cut (by rw [hX.len]; exact Nat.le_refl _), by simp [Cx.cut, hO.hH]⟩
        rw [hO.hH, ← hS1.hH] at he
        have := hS1.b
        have := hX.len
        exact hS1.old hX (by omega) he (by omega)
      have ret : ∀ st1 a1 X1, StRel X L A.ntmps st1 a1 X1 → leave E.T A X.H.length st1 = some (o, H') → LeavesInM Fence.wide 0 P fn a1.tmps (OutPost X L o H') a1.defers .returning X1.w := by
        intro st1 a1 X1 hS1 hl
        refine fin st1 a1 X1 .returning hS1 (by simp) (fun _ => True) trivial (fun _ _ _ _ => trivial) fun X2 hO _ => ?_
        unfold leave at hl
        split at hl
        · cases hl
        · rename_i vs hvs
          rw [← hO.hH] at hvs
          obtain ⟨u, hrun, hv⟩ := results_run hT hO.ok hO.slots hres hvs
          refine ⟨u, hrun, ?_⟩
          split at hl
          · cases hl
            exact ⟨X2, rfl, hO.hH, hO.ok, hO.trans, u, rfl, hv⟩
          · split at hl
            · rename_i hp
              cases hl
              obtain ⟨c1, c2, c3⟩ := hcut st1 a1 X1 X2 hS1 hO
              exact ⟨X2.cut X.H.length, rfl, c3, c1, c2, u, rfl, .frz (hv.pure hp).cut⟩
            · split at hl
              · rename_i v hfr
                cases hl
                rw [← hO.hH] at hfr
                obtain ⟨c1, c2, c3⟩ := hcut st1 a1 X1 X2 hS1 hO
                exact ⟨X2.cut X.H.length, rfl, c3, c1, c2, u, rfl, freeze_run hO.ok 6 _ _ _ L hfr hv⟩
              · cases hl
      split at h
      · rename_i st1 h1
        exact den_sound hmix (callN_ref n) hY.2.1 n A.ac hfine Fence.wide X B _ _ _ _ X _ hS0 h1 fun a1 X1 hS1 => ret st1 a1 X1 hS1 h
      · rename_i st1 h1
        exact den_sound hmix (callN_ref n) hY.2.1 n A.ac hfine Fence.wide X B _ _ _ _ X _ hS0 h1 fun a1 X1 hS1 => ret st1 a1 X1 hS1 h
      · rename_i v st1 h1
        split at h
        · rename_i hu
          cases h
          refine den_sound hmix (callN_ref n) hY.2.1 n A.ac hfine Fence.wide X B _ _ _ _ X _ hS0 h1 fun a1 X1 cv hS1 hv => ?_
          refine fin st1 a1 X1 (.panicking [{ v := cv, recovered := false }]) hS1 (by simp) (fun X2 => VRel X2 L v cv) hv (fun X2 r h hs => hs L v cv h) fun X2 hO hv2 => ?_
          obtain ⟨c1, c2, c3⟩ := hcut st1 a1 X1 X2 hS1 hO
          exact ⟨X2.cut X.H.length, rfl, c3, c1, c2, cv, rfl, hv2.cut hu⟩
        · cases h
      · cases h

end
end Go.Abs

/- Without a bound on rounds and depth: the least answers; how they are found. -/
namespace Go.Abs

abbrev DF := St → Option (Ex × St)
def FLe (D D' : DF) : Prop := ∀ st r, D st = some r → D' st = some r
def YLe (Y Y' : List YF) : Prop := Y'.length = Y.length ∧ ∀ (j : Nat) y y', Y[j]? = some y → Y'[j]? = some y' → ∀ args H r, y args H = some r → y' args H = some r
def CLe (C C' : CF) : Prop := ∀ f args H Y Y' r, YLe Y Y' → C f args H Y = some r → C' f args H Y' = some r
def LLe (lp lp' : DF → DF) : Prop := ∀ D D', FLe D D' → FLe (lp D) (lp' D')

theorem FLe.refl (D : DF) : FLe D D := fun _ _ h => h
theorem YLe.refl (Y : List YF) : YLe Y Y := ⟨rfl, fun j y y' h h' args H r hr => by rw [h] at h'; cases h'; exact hr⟩
theorem YLe.get {Y Y' : List YF} (h : YLe Y Y') {j : Nat} {y : YF} (hy : Y[j]? = some y) : ∃ y', Y'[j]? = some y' ∧ ∀ args H r, y args H = some r → y' args H = some r := by
  have hlt := (List.getElem?_eq_some_iff.1 hy).1
  have : Y'[j]? = some (Y'[j]'(by rw [h.1]; exact hlt)) := List.getElem?_eq_getElem _
  exact ⟨_, this, h.2 j y _ hy this⟩
theorem YLe.push {Y Y' : List YF} (h : YLe Y Y') {y y' : YF} (hy : ∀ args H r, y args H = some r → y' args H = some r) : YLe (Y ++ [y]) (Y' ++ [y']) := by
  refine ⟨by simp [h.1], fun j z z' hz hz' => ?_⟩
  rcases getElem?_push hz with hz | ⟨hj, rfl⟩
  · rcases getElem?_push hz' with hz' | ⟨hj, rfl⟩
    · exact h.2 j z z' hz hz'
    · have := (List.getElem?_eq_some_iff.1 hz).1
      have := h.1
      omega
  · rcases getElem?_push hz' with hz' | ⟨_, rfl⟩
    · have := (List.getElem?_eq_some_iff.1 hz').1
      have := h.1
      omega
    · exact hy

section
variable {E : Env} {C C' : CF} {Y Y' : List YF}

theorem outR_mono {q q' : Option (Out × List Ent)} (h : ∀ r, q = some r → q' = some r) {r : OR} (hr : outR q = some r) : outR q' = some r := by
  cases q with
  | none => simp [outR] at hr
  | some x => rw [h x rfl]; exact hr

theorem bareCall_mono (hC : CLe C C') {g : Nat} {aas : List AV} {H : List Ent} {r : OR} (h : bareCall C g aas H = some r) : bareCall C' g aas H = some r := by
  have c0 : ∀ {r}, C g aas [] [] = some r → C' g aas [] [] = some r := fun h => hC _ _ _ _ _ _ (YLe.refl _) h
  unfold bareCall at h ⊢
  cases hc : C g aas [] [] with
  | none => simp [hc] at h
  | some x => rw [hc] at h; rw [c0 hc]; exact h
theorem askEmpty_mono (hC : CLe C C') {g : Nat} {aas : List AV} (h : askEmpty C g aas = true) : askEmpty C' g aas = true := by
  have c0 : ∀ {r}, C g aas [] [] = some r → C' g aas [] [] = some r := fun h => hC _ _ _ _ _ _ (YLe.refl _) h
  unfold askEmpty at h ⊢
  cases hc : C g aas [] [] with
  | none => simp [hc] at h
  | some x => rw [hc] at h; rw [c0 hc]; exact h

theorem aCallFn_mono (hC : CLe C C') (hY : YLe Y Y') {f : Fl} {H : List Ent} {callee : AV} {args : List AV} {r : OR} (h : aCallFn C Y f H callee args = some r) : aCallFn C' Y' f H callee args = some r := by
  have c0 : ∀ {g aas r}, C g aas [] [] = some r → C' g aas [] [] = some r := fun h => hC _ _ _ _ _ _ (YLe.refl _) h
  unfold aCallFn at h ⊢
  split at h
  · split at h
    · exact outR_mono (fun r hr => hC _ _ _ _ _ _ hY hr) h
    · exact outR_mono (fun r hr => hC _ _ _ _ _ _ hY hr) h
    · split at h
      · cases h
      · split at h
        · rename_i hp
          rw [if_pos hp]
          split at h
          · rename_i hc
            rw [c0 hc]
            exact h
          · cases h
        · cases h
    · split at h
      · rename_i hp
        rw [if_pos hp]
        split at h
        · rename_i hc
          rw [c0 hc]
          exact h
        · rename_i hc
          rw [c0 hc]
          exact h
        · cases h
      · cases h
    · split at h
      · rename_i hp
        rw [if_pos hp]
        split at h
        · split at h
          · rename_i hb
            simp only [Bool.and_eq_true] at hb
            simp only [askEmpty_mono hC hb.1, askEmpty_mono hC hb.2, Bool.and_self, if_true]
            exact h
          · cases h
        · exact bareCall_mono hC h
      · cases h
  · split at h
    · rename_i y hy
      obtain ⟨y', hy', hle⟩ := hY.get hy
      simp only [hy']
      exact outR_mono (fun r hr => hle _ _ _ hr) h
    · cases h
  · cases h

theorem aop_mono (hC : CLe C C') (hY : YLe Y Y') {a : AOp} {ρ : Operand → AV} {b : Nat} {H : List Ent} {r : OR} (h : aopW E C Y ρ a b H = some r) : aopW E C' Y' ρ a b H = some r := by
  unfold aopW at h ⊢
  cases hop : a.o.op <;> simp only [hop] at h ⊢ <;> try exact h
  rename_i c
  cases hc : c.callee <;> simp only [hc] at h ⊢
  · exact aCallFn_mono hC hY h
  · exact h
  · exact h

theorem stepOp_mono (hC : CLe C C') (hY : YLe Y Y') (a : AOp) : FLe (stepOp E C Y a) (stepOp E C' Y' a) := by
  intro st r h
  have go : ∀ {r}, (match aop E C Y a st.b st.tm st.H with
        | some (.val v H) => some (Ex.normal, { st with tm := setDst a.o.dst v st.tm, H := H })
        | some (.pan v H) => some (Ex.pan v, { st with H := H })
        | none => none) = some r → (match aop E C' Y' a st.b st.tm st.H with
        | some (.val v H) => some (Ex.normal, { st with tm := setDst a.o.dst v st.tm, H := H })
        | some (.pan v H) => some (Ex.pan v, { st with H := H })
        | none => none) = some r := by
    intro r h
    cases ha : aop E C Y a st.b st.tm st.H with
    | none => simp [ha] at h
    | some x => rw [show aop E C' Y' a st.b st.tm st.H = some x from aop_mono hC hY ha]; rw [ha] at h; exact h
  unfold stepOp at h ⊢
  split at h
  · exact go h
  · split at h
    · split at h
      · rename_i hw
        rw [if_pos hw]
        exact go h
      · rename_i hw
        rw [if_neg hw]
        exact h
    · exact h
    · cases h

theorem runOps_mono (hC : CLe C C') (hY : YLe Y Y') : ∀ (ops : List AOp), FLe (runOps E C Y ops) (runOps E C' Y' ops)
  | [] => fun _ _ h => h
  | a :: aas => fun st r h => by
    simp only [runOps] at h ⊢
    split at h
    · rename_i st1 h1
      rw [stepOp_mono hC hY a _ _ h1]
      exact runOps_mono hC hY aas _ _ h
    · rename_i hn
      have h2 := stepOp_mono hC hY a _ _ h
      rw [h2]
      rw [h] at hn
      obtain ⟨ex, st'⟩ := r
      cases ex <;> first | rfl | exact absurd rfl (hn _)

theorem loopIter_mono : ∀ {n m : Nat}, n ≤ m → LLe (loopIter n) (loopIter m)
  | 0, _, _ => fun D D' _ st r h => by simp [loopIter] at h
  | n + 1, 0, h => by omega
  | n + 1, m + 1, hnm => fun D D' hD st r h => by
    simp only [loopIter] at h ⊢
    split at h
    · rename_i st1 h1
      rw [hD _ _ h1]
      exact loopIter_mono (Nat.le_of_succ_le_succ hnm) D D' hD _ _ h
    · rename_i hn
      have h2 := hD _ _ h
      rw [h2]
      rw [h] at hn
      obtain ⟨ex, st'⟩ := r
      cases ex <;> first | rfl | exact absurd rfl (hn _)

theorem roundOf_mono {ps : List Nat} {tm : Slots} {k : Nat} {asg asg' body body' : DF} (ha : FLe asg asg') (hb : FLe body body') : ∀ args H r, roundOf ps tm k asg body args H = some r → roundOf ps tm k asg' body' args H = some r := by
  intro args H r h
  unfold roundOf at h ⊢
  split at h
  · split at h
    · rename_i hc
      rw [if_pos hc]
      split at h
      · rename_i st h1
        rw [ha _ _ h1]
        split at h
        · rename_i hk2
          split at h
          · rename_i ex st' h2
            simp only [hk2, hb _ _ h2]
            exact h
          · cases h
        · cases h
      · cases h
    · cases h
  · cases h

theorem rangeFn_mono (hC : CLe C C') (hY : YLe Y Y') {f : AV} {ps : List Nat} {asg asg' body body' : DF} (ha : FLe asg asg') (hb : FLe body body') : FLe (rangeFn C Y f ps asg body) (rangeFn C' Y' f ps asg' body') := by
  intro st r h
  unfold rangeFn at h ⊢
  split at h
  · split at h
    · rename_i h1
      rw [hY.1, hC _ _ _ _ _ _ (hY.push (roundOf_mono ha hb)) h1]
      exact h
    · cases h
  · cases h

theorem den_mono (hC : CLe C C') (hY : YLe Y Y') {lp lp' : DF → DF} (hl : LLe lp lp') : ∀ (ac : AC), FLe (den E C Y lp ac) (den E C' Y' lp' ac)
  | .skip => fun _ _ h => h
  | .exit _ => fun _ _ h => h
  | .ret => fun _ _ h => h
  | .region _ ops d => fun st r h => by
    simp only [den] at h ⊢
    cases h1 : runOps E C Y ops st with
    | none => simp [h1] at h
    | some x => rw [runOps_mono hC hY ops _ _ h1]; rw [h1] at h; exact h
  | .seq a b => fun st r h => by
    simp only [den] at h ⊢
    split at h
    · rename_i st1 h1
      rw [den_mono hC hY hl a _ _ h1]
      exact den_mono hC hY hl b _ _ h
    · rename_i hn
      have h2 := den_mono hC hY hl a _ _ h
      rw [h2]
      rw [h] at hn
      obtain ⟨ex, st'⟩ := r
      cases ex <;> first | rfl | exact absurd rfl (hn _)
  | .cond c a b => fun st r h => by
    simp only [den] at h ⊢
    split at h
    · split at h
      · rename_i ht
        rw [if_pos ht]
        exact den_mono hC hY hl a _ _ h
      · rename_i ht
        rw [if_neg ht]
        exact den_mono hC hY hl b _ _ h
    · cases h
  | .block id a => fun st r h => by
    simp only [den] at h ⊢
    cases h1 : den E C Y lp a st with
    | none => simp [h1] at h
    | some x => rw [den_mono hC hY hl a _ _ h1]; rw [h1] at h; exact h
  | .loop a => fun st r h => hl _ _ (den_mono hC hY hl a) st r h
  | .rangeFunc f ps a b => fun st r h => rangeFn_mono hC hY (den_mono hC hY hl a) (den_mono hC hY hl b) st r h
  | .ghost g a => fun st r h => by
    simp only [den] at h ⊢
    split at h
    · exact den_mono hC hY hl a _ _ h
    · cases h

theorem callN_mono {F : Nat → Option AFn} : ∀ {n m : Nat}, n ≤ m → CLe (callN E F n) (callN E F m)
  | 0, _, _ => fun f args H Y Y' r _ h => by simp [callN] at h
  | n + 1, 0, h => by omega
  | n + 1, m + 1, hnm => fun f args H Y Y' r hY h => by
    simp only [callN] at h ⊢
    split at h
    · cases h
    · rename_i A hA
      have hle := den_mono (E := E) (callN_mono (F := F) (Nat.le_of_succ_le_succ hnm)) hY (loopIter_mono (Nat.le_of_succ_le_succ hnm)) A.ac
      cases h1 : den E (callN E F n) Y (loopIter n) A.ac { tm := Slots.init 0 args, H := H, b := H.length } with
      | none => simp [h1] at h
      | some x => rw [hle _ _ h1]; rw [h1] at h; exact h

/-! ### What is reached in the limit -/

def YApp (Y : List YF) (Yn : Nat → List YF) : Prop := (∀ n, (Yn n).length = Y.length) ∧ (∀ n m, n ≤ m → YLe (Yn n) (Yn m)) ∧ ∀ (j : Nat) y, Y[j]? = some y → ∀ args H r, y args H = some r → ∃ n y', (Yn n)[j]? = some y' ∧ y' args H = some r
def FApp (D : DF) (Dn : Nat → DF) : Prop := (∀ n m, n ≤ m → FLe (Dn n) (Dn m)) ∧ ∀ st r, D st = some r → ∃ n, Dn n st = some r
def CApp (C : CF) (Cn : Nat → CF) : Prop := (∀ n m, n ≤ m → CLe (Cn n) (Cn m)) ∧ ∀ f args H Y Yn r, YApp Y Yn → C f args H Y = some r → ∃ n, Cn n f args H (Yn n) = some r
def LApp (lp : DF → DF) (lpn : Nat → DF → DF) : Prop := (∀ n m, n ≤ m → LLe (lpn n) (lpn m)) ∧ ∀ D Dn, FApp D Dn → ∀ st r, lp D st = some r → ∃ n, lpn n (Dn n) st = some r

theorem YApp.const (Y : List YF) : YApp Y (fun _ => Y) := ⟨fun _ => rfl, fun _ _ _ => YLe.refl Y, fun j y hy args H r hr => ⟨0, y, hy, hr⟩⟩

variable {Cn : Nat → CF} {Yn : Nat → List YF}

theorem CApp.nil (hC : CApp C Cn) {g : Nat} {aas : List AV} {r : Out × List Ent} (h : C g aas [] [] = some r) : ∃ n, Cn n g aas [] [] = some r := hC.2 g aas [] [] (fun _ => []) r (YApp.const []) h

theorem bareCall_lim (hC : CApp C Cn) {g : Nat} {aas : List AV} {H : List Ent} {r : OR} (h : bareCall C g aas H = some r) : ∃ n, bareCall (Cn n) g aas H = some r := by
  unfold bareCall at h
  cases hc : C g aas [] [] with
  | none => simp [hc] at h
  | some x =>
    obtain ⟨n, hn⟩ := hC.nil hc
    refine ⟨n, ?_⟩
    unfold bareCall
    rw [hc] at h
    rw [hn]
    exact h
theorem askEmpty_lim (hC : CApp C Cn) {g : Nat} {aas : List AV} (h : askEmpty C g aas = true) : ∃ n, askEmpty (Cn n) g aas = true := by
  unfold askEmpty at h
  cases hc : C g aas [] [] with
  | none => simp [hc] at h
  | some x =>
    obtain ⟨n, hn⟩ := hC.nil hc
    refine ⟨n, ?_⟩
    unfold askEmpty
    rw [hc] at h
    rw [hn]
    exact h

theorem aCallFn_lim (hC : CApp C Cn) (hY : YApp Y Yn) {f : Fl} {H : List Ent} {callee : AV} {args : List AV} {r : OR} (h : aCallFn C Y f H callee args = some r) : ∃ n, aCallFn (Cn n) (Yn n) f H callee args = some r := by
  have gen : ∀ {g aas}, outR (C g aas H Y) = some r → ∃ n, outR (Cn n g aas H (Yn n)) = some r := by
    intro g aas h
    cases hc : C g aas H Y with
    | none => simp [hc, outR] at h
    | some x =>
      obtain ⟨n, hn⟩ := hC.2 _ _ _ _ _ _ hY hc
      exact ⟨n, by rw [hn, ← hc]; exact h⟩
  unfold aCallFn at h ⊢
  split at h
  · split at h
    · exact gen h
    · exact gen h
    · split at h
      · cases h
      · rename_i aas has
        split at h
        · rename_i hp
          split at h
          · rename_i hc
            obtain ⟨n, hn⟩ := hC.nil hc
            exact ⟨n, by simp only [has, if_pos hp, hn]; exact h⟩
          · cases h
        · cases h
    · split at h
      · rename_i hp
        split at h
        · rename_i hc
          obtain ⟨n, hn⟩ := hC.nil hc
          exact ⟨n, by simp only [if_pos hp, hn]; exact h⟩
        · rename_i hc
          obtain ⟨n, hn⟩ := hC.nil hc
          exact ⟨n, by simp only [if_pos hp, hn]; exact h⟩
        · cases h
      · cases h
    · split at h
      · rename_i hp
        split at h
        · split at h
          · rename_i hb
            simp only [Bool.and_eq_true] at hb
            obtain ⟨n, hn⟩ := askEmpty_lim hC hb.1
            obtain ⟨m, hm⟩ := askEmpty_lim hC hb.2
            refine ⟨max n m, ?_⟩
            simp only [if_pos hp, askEmpty_mono (hC.1 n _ (Nat.le_max_left n m)) hn, askEmpty_mono (hC.1 m _ (Nat.le_max_right n m)) hm, Bool.and_self, if_true]
            exact h
          · cases h
        · rename_i hne
          obtain ⟨n, hn⟩ := bareCall_lim hC h
          refine ⟨n, ?_⟩
          rw [if_pos hp]
          exact hn
      · cases h
  · split at h
    · rename_i y hy
      cases hc : y args H with
      | none => simp [hc, outR] at h
      | some x =>
        obtain ⟨n, y', hy', hn⟩ := hY.2.2 _ y hy _ _ _ hc
        exact ⟨n, by simp only [hy']; rw [hn, ← hc]; exact h⟩
    · cases h
  · cases h

theorem aop_lim (hC : CApp C Cn) (hY : YApp Y Yn) {a : AOp} {ρ : Operand → AV} {b : Nat} {H : List Ent} {r : OR} (h : aopW E C Y ρ a b H = some r) : ∃ n, aopW E (Cn n) (Yn n) ρ a b H = some r := by
  unfold aopW at h ⊢
  cases hop : a.o.op <;> simp only [hop] at h ⊢ <;> try exact ⟨0, h⟩
  rename_i c
  cases hc : c.callee <;> simp only [hc] at h ⊢
  · exact aCallFn_lim hC hY h
  · exact ⟨0, h⟩
  · exact ⟨0, h⟩

theorem stepOp_lim (hC : CApp C Cn) (hY : YApp Y Yn) (a : AOp) {st : St} {r : Ex × St} (h : stepOp E C Y a st = some r) : ∃ n, stepOp E (Cn n) (Yn n) a st = some r := by
  have go : ∀ {r}, (match aop E C Y a st.b st.tm st.H with
        | some (.val v H) => some (Ex.normal, { st with tm := setDst a.o.dst v st.tm, H := H })
        | some (.pan v H) => some (Ex.pan v, { st with H := H })
        | none => none) = some r → ∃ n, (match aop E (Cn n) (Yn n) a st.b st.tm st.H with
        | some (.val v H) => some (Ex.normal, { st with tm := setDst a.o.dst v st.tm, H := H })
        | some (.pan v H) => some (Ex.pan v, { st with H := H })
        | none => none) = some r := by
    intro r h
    cases ha : aop E C Y a st.b st.tm st.H with
    | none => simp [ha] at h
    | some x =>
      obtain ⟨n, hn⟩ := aop_lim hC hY ha
      exact ⟨n, by rw [show aop E (Cn n) (Yn n) a st.b st.tm st.H = some x from hn]; rw [ha] at h; exact h⟩
  unfold stepOp at h ⊢
  split at h
  · exact go h
  · rename_i g w hg
    split at h
    · rename_i t ht
      split at h
      · rename_i hw
        obtain ⟨n, hn⟩ := go h
        exact ⟨n, by simp only [ht, if_pos hw]; exact hn⟩
      · rename_i hw
        exact ⟨0, by simp only [ht, if_neg hw]; exact h⟩
    · rename_i vs ht
      exact ⟨0, h⟩
    · cases h

theorem runOps_lim (hC : CApp C Cn) (hY : YApp Y Yn) : ∀ (ops : List AOp) {st : St} {r : Ex × St}, runOps E C Y ops st = some r → ∃ n, runOps E (Cn n) (Yn n) ops st = some r
  | [], st, r, h => ⟨0, h⟩
  | a :: aas, st, r, h => by
    simp only [runOps] at h ⊢
    split at h
    · rename_i st1 h1
      obtain ⟨n, hn⟩ := stepOp_lim hC hY a h1
      obtain ⟨m, hm⟩ := runOps_lim hC hY aas h
      refine ⟨max n m, ?_⟩
      rw [stepOp_mono (hC.1 n _ (Nat.le_max_left n m)) (hY.2.1 n _ (Nat.le_max_left n m)) a _ _ hn]
      exact runOps_mono (hC.1 m _ (Nat.le_max_right n m)) (hY.2.1 m _ (Nat.le_max_right n m)) aas _ _ hm
    · rename_i hne
      obtain ⟨n, hn⟩ := stepOp_lim hC hY a h
      refine ⟨n, ?_⟩
      rw [hn]
      rw [h] at hne
      obtain ⟨ex, st'⟩ := r
      cases ex <;> first | rfl | exact absurd rfl (hne _)

theorem roundOf_lim {ps : List Nat} {tm : Slots} {k : Nat} {asg body : DF} {asgn bodyn : Nat → DF} (ha : FApp asg asgn) (hb : FApp body bodyn) {args : List AV} {H : List Ent} {r : Out × List Ent} (h : roundOf ps tm k asg body args H = some r) : ∃ n, roundOf ps tm k (asgn n) (bodyn n) args H = some r := by
  unfold roundOf at h ⊢
  split at h
  · rename_i hk
    split at h
    · rename_i hc
      split at h
      · rename_i st h1
        split at h
        · rename_i hk2
          split at h
          · rename_i ex st' h2
            obtain ⟨n, hn⟩ := ha.2 _ _ h1
            obtain ⟨m, hm⟩ := hb.2 _ _ h2
            refine ⟨max n m, ?_⟩
            simp only [if_pos hc, ha.1 n _ (Nat.le_max_left n m) _ _ hn, hk2, hb.1 m _ (Nat.le_max_right n m) _ _ hm]
            exact h
          · cases h
        · cases h
      · cases h
    · cases h
  · cases h

theorem rangeFn_lim (hC : CApp C Cn) (hY : YApp Y Yn) {f : AV} {ps : List Nat} {asg body : DF} {asgn bodyn : Nat → DF} (ha : FApp asg asgn) (hb : FApp body bodyn) {st : St} {r : Ex × St} (h : rangeFn C Y f ps asg body st = some r) :
    ∃ n, rangeFn (Cn n) (Yn n) f ps (asgn n) (bodyn n) st = some r := by
  unfold rangeFn at h ⊢
  split at h
  · split at h
    · rename_i h1
      have hY' : YApp (Y ++ [roundOf ps st.tm st.H.length asg body]) (fun n => Yn n ++ [roundOf ps st.tm st.H.length (asgn n) (bodyn n)]) := by
        refine ⟨fun n => by simp [hY.1 n], fun n m hnm => (hY.2.1 n m hnm).push (roundOf_mono (ha.1 n m hnm) (hb.1 n m hnm)), fun j y hy args H r hr => ?_⟩
        rcases getElem?_push hy with hy | ⟨rfl, rfl⟩
        · obtain ⟨n, y', hy', hn⟩ := hY.2.2 j y hy args H r hr
          exact ⟨n, y', getElem?_old hy', hn⟩
        · obtain ⟨n, hn⟩ := roundOf_lim ha hb hr
          exact ⟨n, _, by rw [← hY.1 n]; simp, hn⟩
      obtain ⟨n, hn⟩ := hC.2 _ _ _ _ _ _ hY' h1
      exact ⟨n, by rw [hY.1 n, hn]; exact h⟩
    · cases h
  · cases h

theorem den_app (hC : CApp C Cn) (hY : YApp Y Yn) {lp : DF → DF} {lpn : Nat → DF → DF} (hl : LApp lp lpn) : ∀ (ac : AC), FApp (den E C Y lp ac) (fun n => den E (Cn n) (Yn n) (lpn n) ac) := by
  have mono : ∀ ac n m, n ≤ m → FLe (den E (Cn n) (Yn n) (lpn n) ac) (den E (Cn m) (Yn m) (lpn m) ac) := fun ac n m hnm => den_mono (hC.1 n m hnm) (hY.2.1 n m hnm) (hl.1 n m hnm) ac
  intro ac
  refine ⟨mono ac, ?_⟩
  induction ac with
  | skip => exact fun st r h => ⟨0, h⟩
  | exit _ => exact fun st r h => ⟨0, h⟩
  | ret => exact fun st r h => ⟨0, h⟩
  | region id ops d =>
    intro st r h
    simp only [den] at h ⊢
    cases h1 : runOps E C Y ops st with
    | none => simp [h1] at h
    | some x =>
      obtain ⟨n, hn⟩ := runOps_lim hC hY ops h1
      exact ⟨n, by rw [hn, ← h1]; exact h⟩
  | seq a b iha ihb =>
    intro st r h
    simp only [den] at h ⊢
    split at h
    · rename_i st1 h1
      obtain ⟨n, hn⟩ := iha _ _ h1
      obtain ⟨m, hm⟩ := ihb _ _ h
      refine ⟨max n m, ?_⟩
      rw [mono a n _ (Nat.le_max_left n m) _ _ hn]
      exact mono b m _ (Nat.le_max_right n m) _ _ hm
    · rename_i hne
      obtain ⟨n, hn⟩ := iha _ _ h
      refine ⟨n, ?_⟩
      rw [show den E (Cn n) (Yn n) (lpn n) a st = some r from hn]
      rw [h] at hne
      obtain ⟨ex, st'⟩ := r
      cases ex <;> first | rfl | exact absurd rfl (hne _)
  | cond c a b iha ihb =>
    intro st r h
    simp only [den] at h ⊢
    split at h
    · split at h
      · rename_i ht
        obtain ⟨n, hn⟩ := iha _ _ h
        exact ⟨n, by simp only [if_pos ht]; exact hn⟩
      · rename_i ht
        obtain ⟨n, hn⟩ := ihb _ _ h
        exact ⟨n, by simp only [if_neg ht]; exact hn⟩
    · cases h
  | block id a iha =>
    intro st r h
    simp only [den] at h ⊢
    cases h1 : den E C Y lp a st with
    | none => simp [h1] at h
    | some x =>
      obtain ⟨n, hn⟩ := iha _ _ h1
      exact ⟨n, by rw [show den E (Cn n) (Yn n) (lpn n) a st = some x from hn, ← h1]; exact h⟩
  | loop a iha => exact fun st r h => hl.2 _ _ ⟨mono a, iha⟩ st r h
  | rangeFunc f ps a b iha ihb => exact fun st r h => rangeFn_lim hC hY ⟨mono a, iha⟩ ⟨mono b, ihb⟩ h
  | ghost g a iha =>
    intro st r h
    simp only [den] at h ⊢
    split at h
    · exact iha _ _ h
    · cases h

theorem loopIter_app : ∀ (k : Nat), LApp (loopIter k) loopIter
  | 0 => ⟨fun n m h => loopIter_mono h, fun D Dn hD st r h => by simp [loopIter] at h⟩
  | k + 1 => ⟨fun n m h => loopIter_mono h, fun D Dn hD st r h => by
    simp only [loopIter] at h
    split at h
    · rename_i st1 h1
      obtain ⟨n, hn⟩ := hD.2 _ _ h1
      obtain ⟨m, hm⟩ := (loopIter_app k).2 D Dn hD _ _ h
      refine ⟨max n m + 1, ?_⟩
      simp only [loopIter]
      rw [hD.1 n (max n m + 1) (by omega) _ _ hn]
      exact loopIter_mono (by omega) _ _ (hD.1 m (max n m + 1) (by omega)) _ _ hm
    · rename_i hne
      obtain ⟨n, hn⟩ := hD.2 _ _ h
      refine ⟨n + 1, ?_⟩
      simp only [loopIter]
      rw [hD.1 n (n + 1) (by omega) _ _ hn]
      rw [h] at hne
      obtain ⟨ex, st'⟩ := r
      cases ex <;> first | rfl | exact absurd rfl (hne _)⟩

theorem callN_app {F : Nat → Option AFn} : ∀ (k : Nat), CApp (callN E F k) (callN E F)
  | 0 => ⟨fun n m h => callN_mono h, fun f args H Y Yn r _ h => by simp [callN] at h⟩
  | k + 1 => ⟨fun n m h => callN_mono h, fun f args H Y Yn r hY h => by
    simp only [callN] at h
    split at h
    · cases h
    · rename_i A hA
      cases h1 : den E (callN E F k) Y (loopIter k) A.ac { tm := Slots.init 0 args, H := H, b := H.length } with
      | none => simp [h1] at h
      | some x =>
        obtain ⟨n, hn⟩ := (den_app (callN_app k) hY (loopIter_app k) A.ac).2 _ _ h1
        refine ⟨n + 1, ?_⟩
        simp only [callN, hA]
        rw [den_mono (callN_mono (Nat.le_refl n)) (hY.2.1 n (n + 1) (by omega)) (loopIter_mono (Nat.le_refl n)) A.ac _ _ hn, ← h1]
        exact h⟩

/-- What a loop does. -/
noncomputable def loopS (D : DF) : DF := fun st => open Classical in if h : ∃ n r, loopIter n D st = some r then loopIter h.choose D st else none
/-- What a function does. -/
noncomputable def callS (E : Env) (F : Nat → Option AFn) : CF := fun f args H Y => open Classical in if h : ∃ n r, callN E F n f args H Y = some r then callN E F h.choose f args H Y else none

theorem loopS_iff {D : DF} {st : St} {r : Ex × St} : loopS D st = some r ↔ ∃ n, loopIter n D st = some r := by
  constructor
  · intro h
    unfold loopS at h
    split at h
    · exact ⟨_, h⟩
    · cases h
  · rintro ⟨n, hn⟩
    have h : ∃ n r, loopIter n D st = some r := ⟨n, r, hn⟩
    unfold loopS
    rw [dif_pos h]
    obtain ⟨r', h'⟩ := h.choose_spec
    rw [h']
    have h1 := loopIter_mono (Nat.le_max_left n h.choose) D D (FLe.refl D) _ _ hn
    have h2 := loopIter_mono (Nat.le_max_right n h.choose) D D (FLe.refl D) _ _ h'
    rw [h1] at h2
    exact h2.symm

theorem callS_iff {F : Nat → Option AFn} {f : Nat} {args : List AV} {H : List Ent} {r : Out × List Ent} : callS E F f args H Y = some r ↔ ∃ n, callN E F n f args H Y = some r := by
  constructor
  · intro h
    unfold callS at h
    split at h
    · exact ⟨_, h⟩
    · cases h
  · rintro ⟨n, hn⟩
    have h : ∃ n r, callN E F n f args H Y = some r := ⟨n, r, hn⟩
    unfold callS
    rw [dif_pos h]
    obtain ⟨r', h'⟩ := h.choose_spec
    rw [h']
    have h1 := callN_mono (Nat.le_max_left n h.choose) _ _ _ _ _ _ (YLe.refl Y) hn
    have h2 := callN_mono (Nat.le_max_right n h.choose) _ _ _ _ _ _ (YLe.refl Y) h'
    rw [h1] at h2
    exact h2.symm

theorem loopS_app : LApp loopS loopIter := ⟨fun n m h => loopIter_mono h, fun D Dn hD st r h => by
  obtain ⟨k, hk⟩ := loopS_iff.1 h
  exact (loopIter_app k).2 D Dn hD st r hk⟩
theorem callS_app {F : Nat → Option AFn} : CApp (callS E F) (callN E F) := ⟨fun n m h => callN_mono h, fun f args H Y Yn r hY h => by
  obtain ⟨k, hk⟩ := callS_iff.1 h
  exact (callN_app k).2 f args H Y Yn r hY hk⟩

/-- A loop, by its first round. -/
theorem loopS_eq (D : DF) (st : St) : loopS D st = match D st with
    | some (.normal, st') => loopS D st'
    | r => r := by
  split
  · rename_i st' h
    apply Option.ext
    intro r
    rw [loopS_iff, loopS_iff]
    constructor
    · rintro ⟨n, hn⟩
      cases n with
      | zero => simp [loopIter] at hn
      | succ n => exact ⟨n, by simpa [loopIter, h] using hn⟩
    · rintro ⟨n, hn⟩
      exact ⟨n + 1, by simpa [loopIter, h] using hn⟩
  · rename_i hne
    apply Option.ext
    intro r
    rw [loopS_iff]
    constructor
    · rintro ⟨n, hn⟩
      cases n with
      | zero => simp [loopIter] at hn
      | succ n =>
        simp only [loopIter] at hn
        exact hn
    · intro h
      refine ⟨1, ?_⟩
      simp only [loopIter]
      exact h

/-- How a call ends, by how its body was left. -/
def wayOut (T : TT) (A : AFn) (b : Nat) : Option (Ex × St) → Option (Out × List Ent)
  | some (.normal, st) | some (.ret, st) => leave T A b st
  | some (.pan v, st) => if AV.under b v then some (.pan v, st.H.take b) else none
  | _ => none

/-- A call, by its body. -/
theorem callS_of {F : Nat → Option AFn} {f : Nat} {A : AFn} (hA : F f = some A) {args : List AV} {H : List Ent} {r : Out × List Ent}
    (h : wayOut E.T A H.length (den E (callS E F) Y loopS A.ac { tm := Slots.init 0 args, H := H, b := H.length }) = some r) : callS E F f args H Y = some r := by
  cases h1 : den E (callS E F) Y loopS A.ac { tm := Slots.init 0 args, H := H, b := H.length } with
  | none => simp [h1, wayOut] at h
  | some x =>
    obtain ⟨n, hn⟩ := (den_app callS_app (YApp.const Y) loopS_app A.ac).2 _ _ h1
    refine callS_iff.2 ⟨n + 1, ?_⟩
    simp only [callN, hA, hn]
    rw [h1] at h
    obtain ⟨ex, st⟩ := x
    cases ex <;> exact h

theorem callS_sound {P : Program} (hT : TOk P E.T) {F : Nat → Option AFn} (hF : FOk P F) (hmix : P.follows .mixedOrders = true) : CSound P E.G (callS E F) := by
  intro f args H Y o H' h
  obtain ⟨n, hn⟩ := callS_iff.1 h
  exact callN_sound hT hF hmix n f args H Y o H' hn

end
end Go.Abs

/- The tables of a program: its types, its functions with the translator's words. -/
namespace Go.Abs

/-- The words for one function: what is said of operations; what is said ahead of regions; whether its memory outlives it. -/
structure Words where
  fl : List (Nat × Nat × Fl) := []
  gh : List (Nat × Ghost) := []
  adopt : Bool := false

def flagAt : List (Nat × Nat × Fl) → Nat → Nat → Fl
  | [], _, _ => .non
  | (r, i, f) :: l, id, k => bif Nat.beq r id && Nat.beq i k then f else flagAt l id k
def ghostAt : List (Nat × Ghost) → Nat → AC → AC
  | [], _, c => c
  | (r, g) :: l, id, c => bif Nat.beq r id then .ghost g (ghostAt l id c) else ghostAt l id c

def guardSlot (ops : List Oper) (o : Oper) : Option (Nat × Bool) :=
  match o.guard with
  | none => none
  | some (j, w) => match (ops[j]?).bind (·.dst) with
    | some d => some (d, w)
    | none => none

def annOps (fl : List (Nat × Nat × Fl)) (id : Nat) (all : List Oper) : Nat → List Oper → List AOp
  | _, [] => []
  | i, o :: os => { o := o, f := flagAt fl id i, g := guardSlot all o } :: annOps fl id all (i + 1) os

/-- Code with the translator's words. -/
def annot (h : Words) : Code → AC
  | .skip => .skip
  | .region id ops d => ghostAt h.gh id (.region id (annOps h.fl id ops.toList 0 ops.toList) d)
  | .seq a b => .seq (annot h a) (annot h b)
  | .cond c a b => .cond c (annot h a) (annot h b)
  | .block id a => .block id (annot h a)
  | .loop a => .loop (annot h a)
  | .rangeFunc f ps a b => .rangeFunc f ps.toList (annot h a) (annot h b)
  | .exit id => .exit id
  | .ret => .ret
  | _ => .skip

def plainCode : Code → Bool
  | .skip | .region .. | .exit _ | .ret => true
  | .seq a b => plainCode a && plainCode b
  | .cond _ a b => plainCode a && plainCode b
  | .block _ a => plainCode a
  | .loop a => plainCode a
  | .rangeFunc _ _ a b => plainCode a && plainCode b
  | _ => false

theorem erase_ghostAt (c : AC) (id : Nat) : ∀ (l : List (Nat × Ghost)), (ghostAt l id c).erase = c.erase
  | [] => rfl
  | (r, g) :: l => by
    simp only [ghostAt]
    cases Nat.beq r id <;> simp [AC.erase, erase_ghostAt c id l]

theorem annOps_o (fl : List (Nat × Nat × Fl)) (id : Nat) (all : List Oper) : ∀ (os : List Oper) (i : Nat), (annOps fl id all i os).map (·.o) = os
  | [], _ => rfl
  | o :: os, i => by simp [annOps, annOps_o fl id all os (i + 1)]

theorem erase_annot (h : Words) : ∀ (c : Code), plainCode c = true → (annot h c).erase = c
  | .skip, _ => rfl
  | .region id ops d, _ => by
    obtain ⟨l⟩ := ops
    simp [annot, erase_ghostAt, AC.erase, annOps_o]
  | .seq a b, hp => by
    simp only [plainCode, Bool.and_eq_true] at hp
    simp [annot, AC.erase, erase_annot h a hp.1, erase_annot h b hp.2]
  | .cond c a b, hp => by
    simp only [plainCode, Bool.and_eq_true] at hp
    simp [annot, AC.erase, erase_annot h a hp.1, erase_annot h b hp.2]
  | .block id a, hp => by simp [annot, AC.erase, erase_annot h a hp]
  | .loop a, hp => by simp [annot, AC.erase, erase_annot h a hp]
  | .rangeFunc f ps a b, hp => by
    simp only [plainCode, Bool.and_eq_true] at hp
    obtain ⟨l⟩ := ps
    simp [annot, AC.erase, erase_annot h a hp.1, erase_annot h b hp.2]
  | .exit id, _ => rfl
  | .ret, _ => rfl
  | .scope _, hp => by cases hp
  | .label _, hp => by cases hp
  | .goto _, hp => by cases hp
  | .refuse _, hp => by cases hp

/-- A function with its words. -/
def mkFn (h : Words) (fn : Func) (c : Code) : AFn := { ac := annot h c, ntmps := fn.ntmps, results := fn.results.toList, adopt := h.adopt }

def wordsAt : List (Nat × Words) → Nat → Words
  | [], _ => {}
  | (g, w) :: l, f => bif Nat.beq g f then w else wordsAt l f

/-- The program's functions with their words. -/
def fnOf (P : Program) (hs : List (Nat × Words)) (f : Nat) : Option AFn :=
  match P.funcs[f]? with
  | none => none
  | some fn => match fn.body with
    | none => none
    | some c => bif !(fn.name == "runtime.NumGoroutine") && (plainCode c && (annot (wordsAt hs f) c).fine fn.ntmps) then some (mkFn (wordsAt hs f) fn c) else none

theorem fnOf_ok (P : Program) (hs : List (Nat × Words)) : FOk P (fnOf P hs) := ⟨fun f A h => by
  unfold fnOf at h
  split at h
  · cases h
  · rename_i fn hf
    split at h
    · cases h
    · rename_i c hc
      cases hcond : (!(fn.name == "runtime.NumGoroutine") && (plainCode c && (annot (wordsAt hs f) c).fine fn.ntmps)) with
      | false => simp [hcond] at h
      | true =>
        simp only [hcond, cond_true, Option.some.injEq] at h
        subst h
        simp only [Bool.and_eq_true, Bool.not_eq_true'] at hcond
        exact ⟨fn, hf, hcond.1, by simp only [mkFn]; rw [erase_annot _ _ hcond.2.1]; exact hc, Nat.le_refl _, by simp [mkFn], hcond.2.2⟩⟩

/-- The program's types. -/
def ttOf (P : Program) (eqs : List (Nat × List Bool)) : TT where
  size t := match P.info? t, P.underlying t with
    | some i, some d => some (i.size, aggD d)
    | _, _ => none
  zero t := match P.info? t with
    | some i => match i.zero with
      | some v => bif v.cells.toList.all (·.oneCell') then some v.cells.toList else none
      | none => none
    | none => none
  elem t := match P.underlying t with
    | some (.slice e) => match P.info? e with
      | some i => match i.zero with
        | some v => bif Nat.beq v.cells.size i.size && v.cells.toList.all (·.oneCell') then some (i.size, i.bytes) else none
        | none => none
      | none => none
    | _ => none
  ety t := match P.underlying t with
    | some (.slice e) => some e
    | _ => none
  arr t := match P.underlying t with
    | some (.array n e) => match P.info? e, P.underlying e with
      | some i, some d => some (n, i.size, aggD d)
      | _, _ => none
    | _ => none
  flds t := match P.underlying t with
    | some (.struct fs) => mapO (fun fl => match P.info? fl.type, P.underlying fl.type with
      | some i, some d => if 0 < i.size then some (fl.offset, i.size, aggD d) else none
      | _, _ => none) fs.toList
    | _ => none
  eqc t := eqs.lookup t
  int t := match P.underlying t with
    | some (.int k) => some k
    | _ => none
  bool t := match P.underlying t with
    | some .bool => true
    | _ => false
  ifc t := match P.underlying t with
    | some (.interface _) => true
    | _ => false

/-- The types of these numbers are compared cell by cell. -/
def EqOk (P : Program) (eqs : List (Nat × List Bool)) : Prop := ∀ t k, eqs.lookup t = some k → ∀ (cs ds : List Value) (e : Bool) (w : World), shapeOk k (cs.map .sc) = true → aggEq (cs.map .sc) (ds.map .sc) = some e →
    P.eqGuardType P.depth t = false ∧ (Op.equal t (.agg cs.toArray) (.agg ds.toArray)).run P w = .ok e w

theorem ttOf_ok (P : Program) (eqs : List (Nat × List Bool)) (he : EqOk P eqs) : TOk P (ttOf P eqs) where
  size t n g h := by
    simp only [ttOf] at h
    split at h
    · cases h; exact ⟨_, _, by assumption, rfl, by assumption, rfl⟩
    · cases h
  zero t zs h := by
    simp only [ttOf] at h
    split at h
    · rename_i i hi
      split at h
      · rename_i v hv
        cases hall : v.cells.toList.all (·.oneCell') with
        | false => rw [hall] at h; cases h
        | true =>
          rw [hall] at h
          cases h
          exact ⟨i, v, hi, hv, rfl, List.all_eq_true.1 hall⟩
      · cases h
    · cases h
  elem t z eb h := by
    simp only [ttOf] at h
    split at h
    · rename_i e hu
      split at h
      · rename_i i hi
        split at h
        · rename_i v hv
          cases hall : (Nat.beq v.cells.size i.size && v.cells.toList.all (·.oneCell')) with
          | false => rw [hall] at h; cases h
          | true =>
            rw [hall] at h
            cases h
            simp only [Bool.and_eq_true] at hall
            exact ⟨e, i, v, hu, hi, rfl, rfl, hv, Nat.eq_of_beq_eq_true hall.1, List.all_eq_true.1 hall.2⟩
        · cases h
      · cases h
    · cases h
  ety t e h := by
    simp only [ttOf] at h
    split at h
    · cases h; assumption
    · cases h
  arr t n z g h := by
    simp only [ttOf] at h
    split at h
    · split at h
      · cases h; exact ⟨_, _, _, by assumption, by assumption, rfl, by assumption, rfl⟩
      · cases h
    · cases h
  fld t l h := by
    simp only [ttOf] at h
    split at h
    · rename_i fs hu
      obtain ⟨hl, hg⟩ := mapO_get h
      refine ⟨fs, hu, by simpa using hl.symm, fun f off n g hf => ?_⟩
      obtain ⟨fl, hfl, hx⟩ := hg f _ hf
      split at hx
      · split at hx
        · cases hx
          exact ⟨fl, _, _, by simpa using hfl, rfl, by assumption, rfl, by assumption, by assumption, rfl⟩
        · cases hx
      · cases hx
    · cases h
  eqc t cs ds e w h h' := by
    cases hk : eqs.lookup t with
    | none => simp [ttOf, eqShape, hk] at h
    | some k => exact he t k hk cs ds e w (by simpa [ttOf, eqShape, hk] using h) h'
  int t k h := by
    simp only [ttOf] at h
    split at h
    · cases h; assumption
    · cases h
  bool t h := by
    simp only [ttOf] at h
    split at h
    · assumption
    · cases h
  ifc t h := by
    simp only [ttOf] at h
    split at h
    · exact ⟨_, by assumption⟩
    · cases h

end Go.Abs

/- Evaluating by rewriting. -/
namespace Go.Abs

section
variable (E : Env) (C : CF) (Y : List YF)

noncomputable def dn (w : Words) (c : Code) (st : St) : Option (Ex × St) := den E C Y loopS (annot w c) st
noncomputable def thenC (w : Words) (r : Option (Ex × St)) (b : Code) : Option (Ex × St) := match r with
  | some (.normal, st) => dn E C Y w b st
  | r => r
noncomputable def condC (w : Words) (v : AV) (a b : Code) (st : St) : Option (Ex × St) := match v with
  | .sc (.bool t) => if t then dn E C Y w a st else dn E C Y w b st
  | _ => none
def blockC (id : Nat) (r : Option (Ex × St)) : Option (Ex × St) := match r with
  | some (.exit id', st) => if id' = id then some (.normal, st) else some (.exit id', st)
  | r => r
noncomputable def loopC (w : Words) (a : Code) : St → Option (Ex × St) := loopS (dn E C Y w a)
def drawC (d : Bool) (r : Option (Ex × St)) : Option (Ex × St) := match r with
  | some (.normal, st') => some (.normal, st')
  | some (ex, st') => if d then none else some (ex, st')
  | none => none
def opsC (fl : List (Nat × Nat × Fl)) (id : Nat) (all : List Oper) (i : Nat) (os : List Oper) (st : St) : Option (Ex × St) := runOps E C Y (annOps fl id all i os) st
noncomputable def ghC (w : Words) (gh : List (Nat × Ghost)) (id : Nat) (ops : List Oper) (d : Bool) (st : St) : Option (Ex × St) :=
  den E C Y loopS (ghostAt gh id (.region id (annOps w.fl id ops 0 ops) d)) st
noncomputable def ghK (w : Words) (gh : List (Nat × Ghost)) (id : Nat) (ops : List Oper) (d : Bool) (r : Option St) : Option (Ex × St) := match r with
  | some st => ghC E C Y w gh id ops d st
  | none => none
/-- An operation. -/
def opD (f : Fl) (op : Op) (tm : Slots) (b : Nat) (H : List Ent) : Option OR := aopW E C Y (aval E.G tm) { o := { dst := none, op := op, type := 0, pos := "", after := #[], guard := none }, f := f, g := none } b H
/-- On from an operation's answer. -/
def opK (fl : List (Nat × Nat × Fl)) (id : Nat) (all : List Oper) (i : Nat) (os : List Oper) (dst : Option Nat) (st : St) (r : Option OR) : Option (Ex × St) := match r with
  | some (.val v H) => opsC E C Y fl id all i os { st with tm := setDst dst v st.tm, H := H }
  | some (.pan v H) => some (.pan v, { st with H := H })
  | none => none
/-- A guarded operation. -/
def opG (fl : List (Nat × Nat × Fl)) (id : Nat) (all : List Oper) (i : Nat) (os : List Oper) (o : Oper) (v : AV) (want : Bool) (st : St) : Option (Ex × St) := match v with
  | .sc (.bool t) => if t = want then opK E C Y fl id all (i + 1) os o.dst st (opD E C Y (flagAt fl id i) o.op st.tm st.b st.H) else opsC E C Y fl id all (i + 1) os { st with tm := setDst o.dst (.sc undef) st.tm }
  | .sc (.tuple _) => opsC E C Y fl id all (i + 1) os { st with tm := setDst o.dst (.sc undef) st.tm }
  | _ => none
end

section
variable {E : Env} {C : CF} {Y : List YF} {w : Words} {fl : List (Nat × Nat × Fl)} {id : Nat} {all os ops : List Oper} {i : Nat} {st : St} {d : Bool}

@[congr] theorem thenC_congr {r r' : Option (Ex × St)} {b : Code} (h : r = r') : thenC E C Y w r b = thenC E C Y w r' b := by rw [h]
@[congr] theorem condC_congr {v v' : AV} {a b : Code} (h : v = v') : condC E C Y w v a b st = condC E C Y w v' a b st := by rw [h]
@[congr] theorem ghK_congr {gh : List (Nat × Ghost)} {r r' : Option St} (h : r = r') : ghK E C Y w gh id ops d r = ghK E C Y w gh id ops d r' := by rw [h]
@[congr] theorem opK_congr {dst : Option Nat} {r r' : Option OR} (h : r = r') : opK E C Y fl id all i os dst st r = opK E C Y fl id all i os dst st r' := by rw [h]
@[congr] theorem opG_congr {o : Oper} {v v' : AV} {want : Bool} (h : v = v') : opG E C Y fl id all i os o v want st = opG E C Y fl id all i os o v' want st := by rw [h]
@[congr] theorem dn_congr {c : Code} {st' : St} (h : st = st') : dn E C Y w c st = dn E C Y w c st' := by rw [h]
@[congr] theorem opsC_congr {st' : St} (h : st = st') : opsC E C Y fl id all i os st = opsC E C Y fl id all i os st' := by rw [h]
@[congr] theorem ghC_congr {gh : List (Nat × Ghost)} {st' : St} (h : st = st') : ghC E C Y w gh id ops d st = ghC E C Y w gh id ops d st' := by rw [h]
@[congr] theorem loopC_congr {a : Code} {st' : St} (h : st = st') : loopC E C Y w a st = loopC E C Y w a st' := by rw [h]

@[go_sem] theorem dn_skip : dn E C Y w .skip st = some (.normal, st) := rfl
@[go_sem] theorem dn_exit (id : Nat) : dn E C Y w (.exit id) st = some (.exit id, st) := rfl
@[go_sem] theorem dn_ret : dn E C Y w .ret st = some (.ret, st) := rfl
@[go_sem ↓] theorem dn_seq (a b : Code) : dn E C Y w (.seq a b) st = thenC E C Y w (dn E C Y w a st) b := rfl
@[go_sem ↓] theorem dn_cond (c : Operand) (a b : Code) : dn E C Y w (.cond c a b) st = condC E C Y w (aval E.G st.tm c) a b st := rfl
@[go_sem ↓] theorem dn_block (id : Nat) (a : Code) : dn E C Y w (.block id a) st = blockC id (dn E C Y w a st) := rfl
@[go_sem ↓] theorem dn_loop (a : Code) : dn E C Y w (.loop a) st = loopC E C Y w a st := rfl
@[go_sem ↓] theorem dn_region (ops : List Oper) : dn E C Y w (.region id ⟨ops⟩ d) st = ghC E C Y w w.gh id ops d st := rfl
@[go_sem] theorem thenC_normal {b : Code} : thenC E C Y w (some (.normal, st)) b = dn E C Y w b st := rfl
@[go_sem] theorem thenC_exit {b : Code} {id : Nat} : thenC E C Y w (some (.exit id, st)) b = some (.exit id, st) := rfl
@[go_sem] theorem thenC_ret {b : Code} : thenC E C Y w (some (.ret, st)) b = some (.ret, st) := rfl
@[go_sem] theorem thenC_pan {b : Code} {v : AV} : thenC E C Y w (some (.pan v, st)) b = some (.pan v, st) := rfl
@[go_sem] theorem condC_true {a b : Code} : condC E C Y w (.sc (.bool true)) a b st = dn E C Y w a st := rfl
@[go_sem] theorem condC_false {a b : Code} : condC E C Y w (.sc (.bool false)) a b st = dn E C Y w b st := rfl
@[go_sem] theorem blockC_normal {id : Nat} : blockC id (some (.normal, st)) = some (.normal, st) := rfl
@[go_sem] theorem blockC_ret {id : Nat} : blockC id (some (.ret, st)) = some (.ret, st) := rfl
@[go_sem] theorem blockC_pan {id : Nat} {v : AV} : blockC id (some (.pan v, st)) = some (.pan v, st) := rfl
@[go_sem] theorem blockC_exit {id id' : Nat} : blockC id (some (.exit id', st)) = if id' = id then some (.normal, st) else some (.exit id', st) := rfl
@[go_sem] theorem drawC_normal : drawC d (some (.normal, st)) = some (.normal, st) := rfl
@[go_sem] theorem drawC_pan {v : AV} : drawC false (some (.pan v, st)) = some (.pan v, st) := rfl
@[go_sem ↓] theorem ghC_nil : ghC E C Y w [] id ops d st = drawC d (opsC E C Y w.fl id ops 0 ops st) := rfl
@[go_sem ↓] theorem ghC_cons {r : Nat} {g : Ghost} {gh : List (Nat × Ghost)} : ghC E C Y w ((r, g) :: gh) id ops d st = if r = id then ghK E C Y w gh id ops d (ghost g st) else ghC E C Y w gh id ops d st := by
  unfold ghC ghK
  simp only [ghostAt]
  by_cases h : r = id
  · subst h
    simp only [Nat.beq_refl, if_true, cond_true, den]
    cases ghost g st <;> rfl
  · simp only [beq_ne h, if_neg h, cond_false]
@[go_sem] theorem ghK_some {gh : List (Nat × Ghost)} : ghK E C Y w gh id ops d (some st) = ghC E C Y w gh id ops d st := rfl
@[go_sem] theorem opsC_nil : opsC E C Y fl id all i [] st = some (.normal, st) := rfl
@[go_sem ↓] theorem opsC_cons {dst : Option Nat} {op : Op} {type : TypeId} {pos : String} {after : Array Edge} : opsC E C Y fl id all i ({ dst := dst, op := op, type := type, pos := pos, after := after, guard := none } :: os) st =
    opK E C Y fl id all (i + 1) os dst st (opD E C Y (flagAt fl id i) op st.tm st.b st.H) := by
  unfold opsC opK opD
  simp only [annOps, runOps, stepOp, guardSlot]
  have : aop E C Y { o := { dst := dst, op := op, type := type, pos := pos, after := after, guard := none }, f := flagAt fl id i, g := none } st.b st.tm st.H =
    aopW E C Y (aval E.G st.tm) { o := { dst := none, op := op, type := 0, pos := "", after := #[], guard := none }, f := flagAt fl id i, g := none } st.b st.H := rfl
  rw [this]
  cases aopW E C Y (aval E.G st.tm) { o := { dst := none, op := op, type := 0, pos := "", after := #[], guard := none }, f := flagAt fl id i, g := none } st.b st.H with
  | none => rfl
  | some r => cases r <;> rfl
@[go_sem ↓] theorem opsC_guard {dst : Option Nat} {op : Op} {type : TypeId} {pos : String} {after : Array Edge} {j : Nat} {want : Bool} :
    opsC E C Y fl id all i ({ dst := dst, op := op, type := type, pos := pos, after := after, guard := some (j, want) } :: os) st =
    match (all[j]?).bind (·.dst) with
    | some g => opG E C Y fl id all i os { dst := dst, op := op, type := 0, pos := "", after := #[], guard := none } (st.tm.get g) want st
    | none => opsC E C Y fl id all i ({ dst := dst, op := op, type := type, pos := pos, after := after, guard := some (j, want) } :: os) st := by
  cases hg : (all[j]?).bind (·.dst) with
  | none => rfl
  | some g =>
    unfold opsC opG opK opD
    simp only [annOps, runOps, stepOp, guardSlot, hg]
    have : aop E C Y { o := { dst := dst, op := op, type := type, pos := pos, after := after, guard := some (j, want) }, f := flagAt fl id i, g := some (g, want) } st.b st.tm st.H =
          aopW E C Y (aval E.G st.tm) { o := { dst := none, op := op, type := 0, pos := "", after := #[], guard := none }, f := flagAt fl id i, g := none } st.b st.H := rfl
    rw [this]
    generalize st.tm.get g = v
    cases v with
    | sc u =>
      cases u with
      | bool t =>
        by_cases ht : t = want
        · simp only [ht, if_true]
          cases aopW E C Y (aval E.G st.tm) { o := { dst := none, op := op, type := 0, pos := "", after := #[], guard := none }, f := flagAt fl id i, g := none } st.b st.H with
          | none => rfl
          | some r => cases r <;> rfl
        · simp only [ht, if_false]
          rfl
      | _ => rfl
    | _ => rfl
@[go_sem] theorem opK_val {dst : Option Nat} {v : AV} {H : List Ent} : opK E C Y fl id all i os dst st (some (.val v H)) = opsC E C Y fl id all i os { st with tm := setDst dst v st.tm, H := H } := rfl
@[go_sem] theorem opK_pan {dst : Option Nat} {v : AV} {H : List Ent} : opK E C Y fl id all i os dst st (some (.pan v H)) = some (.pan v, { st with H := H }) := rfl
theorem opG_bool {o : Oper} {t want : Bool} : opG E C Y fl id all i os o (.sc (.bool t)) want st =
    if t = want then opG E C Y fl id all i os o (.sc (.bool want)) want st else opG E C Y fl id all i os o (.sc (.bool !want)) want st := by
  cases t <;> cases want <;> rfl
@[go_sem] theorem opG_skip {o : Oper} {want : Bool} : opG E C Y fl id all i os o (.sc undef) want st = opsC E C Y fl id all (i + 1) os { st with tm := setDst o.dst (.sc undef) st.tm } := rfl
@[go_sem] theorem opG_tt {o : Oper} : opG E C Y fl id all i os o (.sc (.bool true)) true st = opK E C Y fl id all (i + 1) os o.dst st (opD E C Y (flagAt fl id i) o.op st.tm st.b st.H) := rfl
@[go_sem] theorem opG_ff {o : Oper} : opG E C Y fl id all i os o (.sc (.bool false)) false st = opK E C Y fl id all (i + 1) os o.dst st (opD E C Y (flagAt fl id i) o.op st.tm st.b st.H) := rfl
@[go_sem] theorem opG_tf {o : Oper} : opG E C Y fl id all i os o (.sc (.bool true)) false st = opsC E C Y fl id all (i + 1) os { st with tm := setDst o.dst (.sc undef) st.tm } := rfl
@[go_sem] theorem opG_ft {o : Oper} : opG E C Y fl id all i os o (.sc (.bool false)) true st = opsC E C Y fl id all (i + 1) os { st with tm := setDst o.dst (.sc undef) st.tm } := rfl
theorem condC_bool {a b : Code} {t : Bool} : condC E C Y w (.sc (.bool t)) a b st = if t = true then dn E C Y w a st else dn E C Y w b st := rfl

variable {f : Fl} {tm : Slots} {b : Nat} {H : List Ent} {t : Nat} {T : TT}

@[go_sem] theorem aval_tmp {G : Nat → AV} (k : Nat) : aval G tm (.tmp k) = tm.get k := rfl
@[go_sem] theorem aval_const {G : Nat → AV} (v : Value) : aval G tm (.const v) = .sc v := rfl
@[go_sem] theorem aval_func {G : Nat → AV} (g : Nat) : aval G tm (.func g) = .fn g [] := rfl
@[go_sem] theorem aval_global {G : Nat → AV} (g : Nat) : aval G tm (.global g) = G g := rfl
@[go_sem ↓] theorem get_cons (k : Nat) (v : AV) : Slots.get ((k, v) :: tm) t = if k = t then v else tm.get t := by
  by_cases h : k = t
  · subst h; simp [Slots.get]
  · simp [Slots.get, beq_ne h, h]
@[go_sem] theorem setDst_some (d : Nat) (v : AV) : setDst (some d) v tm = (d, v) :: tm := rfl
@[go_sem] theorem setDst_none (v : AV) : setDst none v tm = tm := rfl

@[go_sem] theorem opD_move (x : Operand) : opD E C Y f (.move x) tm b H = some (.val (aval E.G tm x) H) := rfl
@[go_sem] theorem opD_assign (x : Operand) : opD E C Y f (.assign x) tm b H = some (.val (aval E.G tm x) H) := rfl
@[go_sem] theorem opD_pick (c x y : Operand) : opD E C Y f (.pick c x y) tm b H = match aval E.G tm c with
    | .sc (.bool t) => some (.val (if t then aval E.G tm x else aval E.G tm y) H)
    | _ => none := rfl
@[go_sem] theorem opD_alloc : opD E C Y f (.alloc t) tm b H = match E.T.zero t with
    | some zs => some (.val (.bp H.length 0) (H ++ [.box (zs.map .sc)]))
    | none => none := rfl
@[go_sem] theorem opD_box (x : Operand) : opD E C Y f (.box t x) tm b H = match E.T.size t with
    | some (n, _) => if (aval E.G tm x).cells.length = n ∧ 0 < n ∧ AV.storable (aval E.G tm x) = true ∧ AV.still (aval E.G tm x) = true then some (.val (.bp H.length 0) (H ++ [.box (aval E.G tm x).cells])) else none
    | none => none := rfl
@[go_sem] theorem opD_load (x : Operand) : opD E C Y .non (.load t x) tm b H = ok H (aLoad E.T H t (aval E.G tm x)) := rfl
@[go_sem] theorem opD_load_own (x : Operand) : opD E C Y .own (.load t x) tm b H = if (!(aval E.G tm x).isFp) = true then none else ok H (aLoad E.T H t (aval E.G tm x)) := rfl
@[go_sem] theorem opD_fieldAddr_own (x : Operand) (k : Nat) : opD E C Y .own (.fieldAddr t x k) tm b H = if (!(aval E.G tm x).isFp) = true then none else ok H (aField E.T H t k (aval E.G tm x)) := rfl
@[go_sem] theorem isFp_fp (cs : List AV) : (AV.fp cs).isFp = true := rfl
@[go_sem] theorem opD_store (x y : Operand) : opD E C Y f (.store t x y) tm b H = match aStore E.T b H t (aval E.G tm x) (aval E.G tm y) with
    | some H' => some (.val .und H')
    | none => none := rfl
@[go_sem] theorem opD_nilCheck (x : Operand) : opD E C Y f (.nilCheck x) tm b H = if alive H (aval E.G tm x) then some (.val (aval E.G tm x) H) else none := rfl
@[go_sem] theorem opD_binOp (op : BinOp) (x y : Operand) (yt : Nat) : opD E C Y f (.binOp op t x y yt) tm b H = ok H (aBin E.T op t (aval E.G tm x) (aval E.G tm y)) := rfl
@[go_sem] theorem opD_unOp (op : UnOp) (x : Operand) : opD E C Y f (.unOp op t x) tm b H = ok H (aUn op (aval E.G tm x)) := rfl
@[go_sem] theorem opD_convert (s d : Nat) (x : Operand) : opD E C Y f (.convert s d x) tm b H = ok H (aConv E.T s d (aval E.G tm x)) := rfl
@[go_sem] theorem opD_fieldAddr (x : Operand) (k : Nat) : opD E C Y .non (.fieldAddr t x k) tm b H = ok H (aField E.T H t k (aval E.G tm x)) := rfl
@[go_sem] theorem opD_field (x : Operand) (k : Nat) : opD E C Y f (.field t x k) tm b H = ok H (aFieldVal E.T t k (aval E.G tm x)) := rfl
@[go_sem] theorem opD_indexAddr (x y : Operand) : opD E C Y f (.indexAddr t x y) tm b H = ok H (aIndexAddr E.T H t (aval E.G tm x) (aval E.G tm y)) := rfl
@[go_sem] theorem opD_index (x y : Operand) : opD E C Y f (.index t x y) tm b H = ok H (aIndex E.T t (aval E.G tm x) (aval E.G tm y)) := rfl
@[go_sem] theorem opD_slice (x : Operand) (lo hi mx : Option Operand) : opD E C Y f (.slice t x lo hi mx) tm b H = ok H (aSlice E.T H t (aval E.G tm x) (lo.map (aval E.G tm)) (hi.map (aval E.G tm)) (mx.map (aval E.G tm))) := rfl
@[go_sem] theorem opD_makeSlice (x y : Operand) : opD E C Y f (.makeSlice t x y) tm b H = okH (aMake E.T (f == .own) H t (aval E.G tm x) (aval E.G tm y) (E.T.ezero t)) := rfl
@[go_sem] theorem opD_build (ps : List (Nat × Operand)) : opD E C Y f (.build t ⟨ps⟩) tm b H = ok H (aBuild E.T t (ps.map fun p => (p.1, aval E.G tm p.2))) := rfl
@[go_sem] theorem opD_makeFunc (g : Nat) (cs : List Operand) : opD E C Y f (.makeFunc (.func g) #[] ⟨cs⟩) tm b H = some (.val (.fn g (cs.map (aval E.G tm))) H) := rfl
@[go_sem] theorem opD_len (x : Operand) : opD E C Y f (.call { callee := .builtin .len, args := #[x], argTypes := #[t] }) tm b H = ok H (aLen E.T H t (aval E.G tm x)) := rfl
@[go_sem] theorem opD_call (g : Operand) (xs : List Operand) (ts : Array TypeId) : opD E C Y f (.call { callee := .value g, args := ⟨xs⟩, argTypes := ts }) tm b H = aCallFn C Y f H (aval E.G tm g) (xs.map (aval E.G tm)) := rfl
@[go_sem] theorem ok_some (v : AV) : Go.Abs.ok H (some v) = some (.val v H) := rfl
@[go_sem] theorem okH_some (v : AV) : okH (some (v, H)) = some (.val v H) := rfl

@[go_sem] theorem bin_lss (k : IntKind) (x y : Int) : aBin T .lss t (.sc (.int k x)) (.sc (.int k y)) = some (.sc (.bool (x < y))) := by simp [aBin, intBin]
@[go_sem] theorem bin_leq (k : IntKind) (x y : Int) : aBin T .leq t (.sc (.int k x)) (.sc (.int k y)) = some (.sc (.bool (x ≤ y))) := by simp [aBin, intBin]
@[go_sem] theorem bin_gtr (k : IntKind) (x y : Int) : aBin T .gtr t (.sc (.int k x)) (.sc (.int k y)) = some (.sc (.bool (x > y))) := by simp [aBin, intBin]
@[go_sem] theorem bin_geq (k : IntKind) (x y : Int) : aBin T .geq t (.sc (.int k x)) (.sc (.int k y)) = some (.sc (.bool (x ≥ y))) := by simp [aBin, intBin]
@[go_sem] theorem bin_eql (k : IntKind) (x y : Int) : aBin T .eql t (.sc (.int k x)) (.sc (.int k y)) = some (.sc (.bool (decide (x = y)))) := by simp only [aBin, intBin, if_true, Option.map_some]; rfl
@[go_sem] theorem bin_neq (k : IntKind) (x y : Int) : aBin T .neq t (.sc (.int k x)) (.sc (.int k y)) = some (.sc (.bool (!decide (x = y)))) := by simp only [aBin, intBin, if_true, Option.map_some]; rfl
@[go_sem] theorem bin_add (k : IntKind) (x y : Int) : aBin T .add t (.sc (.int k x)) (.sc (.int k y)) = some (.sc (.int k (k.wrap (x + y)))) := by simp [aBin, intBin]
@[go_sem] theorem bin_sub (k : IntKind) (x y : Int) : aBin T .sub t (.sc (.int k x)) (.sc (.int k y)) = some (.sc (.int k (k.wrap (x - y)))) := by simp [aBin, intBin]
@[go_sem] theorem bin_mul (k : IntKind) (x y : Int) : aBin T .mul t (.sc (.int k x)) (.sc (.int k y)) = some (.sc (.int k (k.wrap (x * y)))) := by simp [aBin, intBin]
@[go_sem] theorem un_not (x : Bool) : aUn .not (.sc (.bool x)) = some (.sc (.bool !x)) := rfl

@[go_sem] theorem load_bp (k off : Nat) : aLoad T H t (.bp k off) = match T.size t with
    | none => none
    | some (n, g) => match H[k]? with
      | some (.box cs) => valOf n g (cs.drop off)
      | _ => none := rfl
@[go_sem] theorem load_fp (cs : List AV) : aLoad T H t (.fp cs) = match T.size t with
    | none => none
    | some (n, g) => valOf n g cs := rfl
@[go_sem] theorem valOf_one (n : Nat) (c : AV) (cs : List AV) : valOf n false (c :: cs) = some c := rfl
@[go_sem] theorem valOf_agg (n : Nat) (cs : List AV) : valOf n true cs = if n ≤ cs.length then some (.agg (cs.take n)) else none := rfl
@[go_sem] theorem alive_fp (cs : List AV) : alive H (.fp cs) = true := rfl
@[go_sem] theorem alive_bp (k off : Nat) : alive H (.bp k off) = match H[k]? with
    | some (.box _) => true
    | _ => false := rfl
@[go_sem] theorem field_eq (k : Nat) (a : AV) : aField T H t k a = if alive H a then (T.fld t k).map fun r => a.shift r.1 else none := rfl
@[go_sem] theorem shift_bp (k off d : Nat) : (AV.bp k off).shift d = .bp k (off + d) := rfl
@[go_sem] theorem shift_fp (cs : List AV) (d : Nat) : (AV.fp cs).shift d = .fp (cs.drop d) := rfl
@[go_sem] theorem len_sl (fl : Bool) (z : Nat) (xs : List (List AV)) : aLen T H t (.sl fl z xs) = match T.arr t with
    | some (n, _, _) => some (.sc (.int .i64 n))
    | none => match T.elem t with
      | none => none
      | some _ => some (.sc (.int .i64 xs.length)) := rfl
@[go_sem] theorem cells_agg (cs : List AV) : (AV.agg cs).cells = cs := rfl

/-- What a call hands back, from how its body was left. -/
def outC (T : TT) (rs : List ResultVar) (ad : Bool) (b : Nat) (r : Option (Ex × St)) : Option (Out × List Ent) := wayOut T { ac := .skip, ntmps := 0, results := rs, adopt := ad } b r
@[congr] theorem outC_congr {rs : List ResultVar} {ad : Bool} {r r' : Option (Ex × St)} (h : r = r') : outC T rs ad b r = outC T rs ad b r' := by rw [h]
def leaveC (ad : Bool) (b : Nat) (H : List Ent) (v : AV) : Option (Out × List Ent) :=
  if ad then some (.ret v, H) else if AV.pure v then some (.ret v, H.take b) else match AV.freeze b H 6 v with
    | some v => some (.ret v, H.take b)
    | none => none
@[go_sem] theorem outC_ret {rs : List ResultVar} {ad : Bool} : outC T rs ad b (some (.ret, st)) = match Go.Abs.results T st.tm st.H rs with
    | none => none
    | some vs => leaveC ad b st.H (pack vs) := by
  unfold outC wayOut leave leaveC
  simp only
  cases Go.Abs.results T st.tm st.H rs <;> rfl
@[go_sem] theorem outC_normal {rs : List ResultVar} {ad : Bool} : outC T rs ad b (some (.normal, st)) = outC T rs ad b (some (.ret, st)) := rfl
@[go_sem] theorem outC_pan {rs : List ResultVar} {ad : Bool} {v : AV} : outC T rs ad b (some (.pan v, st)) = if AV.under b v then some (.pan v, st.H.take b) else none := rfl
@[go_sem] theorem results_nil : Go.Abs.results T tm H [] = some [] := rfl
@[go_sem] theorem results_tmp {rs : List ResultVar} (k : Nat) : Go.Abs.results T tm H (.tmp k :: rs) = (Go.Abs.results T tm H rs).map (tm.get k :: ·) := rfl
@[go_sem] theorem results_cell {rs : List ResultVar} (k : Nat) : Go.Abs.results T tm H (.cell k t :: rs) = (aLoad T H t (tm.get k)).bind fun v => (Go.Abs.results T tm H rs).map (v :: ·) := rfl
@[go_sem] theorem pack_one (v : AV) : pack [v] = v := rfl
@[go_sem] theorem pack_two (v u : AV) (vs : List AV) : pack (v :: u :: vs) = .tup (v :: u :: vs) := rfl
@[go_sem] theorem pack_nil : pack [] = .tup [] := rfl

noncomputable def bodyOf (fn : Func) : Code := fn.body.getD .skip

/-- A call, by its body. -/
theorem callS_by {F : Nat → Option AFn} {g : Nat} {fn : Func} {rs : List ResultVar} (hA : F g = some (mkFn w fn (bodyOf fn))) (hr : fn.results = ⟨rs⟩) {args : List AV} {r : Out × List Ent}
    (h : outC E.T rs w.adopt H.length (dn E (callS E F) Y w (bodyOf fn) { tm := Slots.init 0 args, H := H, b := H.length }) = some r) : callS E F g args H Y = some r := by
  refine callS_of hA ?_
  unfold outC at h
  rw [← h]
  unfold wayOut leave mkFn dn
  simp only [hr]

@[go_sem] theorem index_sl (fl : Bool) (z : Nat) (xs : List (List AV)) (k : IntKind) (j : Int) : aIndexAddr T H t (.sl fl z xs) (.sc (.int k j)) = if j < 0 then none else match T.elem t with
    | some (z', _) => if z = z' then (xs[j.toNat]?).map .fp else none
    | none => none := rfl
attribute [go_sem] AV.storable AV.still AV.stillL AV.cells Value.oneCell' leaveC AV.pure AV.pureL Slots.init

theorem wrap64 {x : Int} (h : -9223372036854775808 ≤ x ∧ x < 9223372036854775808) : IntKind.wrap .i64 x = x := by
  unfold IntKind.wrap
  simp [IntKind.signed, IntKind.bits]
  omega

/-- On from a round. -/
noncomputable def nextC (E : Env) (C : CF) (Y : List YF) (w : Words) (a : Code) (r : Option (Ex × St)) : Option (Ex × St) := match r with
  | some (.normal, st') => loopC E C Y w a st'
  | r => r
@[congr] theorem nextC_congr {a : Code} {r r' : Option (Ex × St)} (h : r = r') : nextC E C Y w a r = nextC E C Y w a r' := by rw [h]
theorem loopC_eq {a : Code} : loopC E C Y w a st = nextC E C Y w a (dn E C Y w a st) := by
  show loopS (dn E C Y w a) st = _
  rw [loopS_eq]
  rfl
@[go_sem] theorem nextC_normal {a : Code} : nextC E C Y w a (some (.normal, st)) = loopC E C Y w a st := rfl
@[go_sem] theorem nextC_exit {a : Code} {id : Nat} : nextC E C Y w a (some (.exit id, st)) = some (.exit id, st) := rfl
@[go_sem] theorem nextC_ret {a : Code} : nextC E C Y w a (some (.ret, st)) = some (.ret, st) := rfl
@[go_sem] theorem nextC_pan {a : Code} {v : AV} : nextC E C Y w a (some (.pan v, st)) = some (.pan v, st) := rfl

/-- The loops of a piece of code, the outer ones ahead of the inner ones. -/
def loopsOf : Code → List Code
  | .seq a b => loopsOf a ++ loopsOf b
  | .cond _ a b => loopsOf a ++ loopsOf b
  | .block _ a => loopsOf a
  | .loop a => a :: loopsOf a
  | .rangeFunc _ _ a b => loopsOf a ++ loopsOf b
  | _ => []
@[go_sem] theorem cut_eq (slots : List Nat) (m : Nat) : ghost (.cut slots m) st =
    if (slots.map fun t => (t, st.tm.get t)).all (fun p => AV.under (st.b + m) p.2) && ((st.H.take (st.b + m)).drop st.b).all (Ent.under (st.b + m)) then
      some { st with tm := slots.map fun t => (t, st.tm.get t), H := st.H.take (st.b + m) } else none := rfl
attribute [go_sem] AV.under AV.underL
@[go_sem] theorem flagAt_nil (k : Nat) : flagAt [] id k = .non := rfl
@[go_sem] theorem flagAt_cons (r j k : Nat) (f : Fl) : flagAt ((r, j, f) :: fl) id k = if r = id ∧ j = k then f else flagAt fl id k := by
  simp only [flagAt]
  by_cases h : r = id
  · subst h
    by_cases h' : j = k
    · subst h'; simp
    · simp [beq_ne h', h']
  · simp [beq_ne h, h]
@[go_sem] theorem natNeg (n : Nat) : ((n : Int) < 0) = False := eq_false (by omega)
/-- The state that a loop leaves, by a function. -/
theorem skol {A : Prop} {P : St → Prop} {Q : St → St → Prop} (h : A → ∀ st, P st → ∃ st', Q st st') : ∃ R : St → St, A → ∀ st, P st → Q st (R st) := by
  by_cases ha : A
  · refine ⟨fun st => open Classical in if hp : P st then (h ha st hp).choose else st, fun _ st hp => ?_⟩
    simp only [dif_pos hp]
    exact (h ha st hp).choose_spec
  · exact ⟨fun st => st, fun h' => absurd h' ha⟩
end
end Go.Abs

