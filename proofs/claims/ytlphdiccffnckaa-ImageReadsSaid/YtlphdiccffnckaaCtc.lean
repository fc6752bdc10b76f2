/- What the translator's words do: the machine does nothing, what is known of it is put otherwise. -/
import Derived.Test.YtlphdiccffnckaaCtb
namespace Go.Abs

theorem VRel.under {X : Cx} {L : List Nat} {a : AV} {v : Value} (h : VRel X L a v) {n : Nat} (hn : X.E.length ≤ n) : AV.under n a = true := by
  have lst : ∀ {cs : List AV} {vs : Array Value}, vs.size = cs.length → (∀ (i : Nat) c v, cs[i]? = some c → vs[i]? = some v → AV.under n c = true) → AV.underL n cs = true := by
    intro cs vs hl hp
    rw [underL_iff]
    intro c hc
    obtain ⟨i, hi⟩ := List.mem_iff_getElem?.1 hc
    have hlt := (List.getElem?_eq_some_iff.1 hi).1
    exact hp i c vs[i] hi (Array.getElem?_eq_getElem (by omega))
  have fr : ∀ {a : AV} {v : Value}, FRel X.w X.M a v → AV.under n a = true := by
    intro a v h
    induction h with
    | und => rfl
    | sc => rfl
    | agg hl _ _ ih => exact lst hl ih
    | tup hl _ ih => exact lst hl ih
    | fn hl _ ih => exact lst hl ih
    | ifc _ ih => exact ih
    | slE => rfl
    | nsl => rfl
    | sl => rfl
    | fp => rfl
  induction h with
  | frz h => exact fr h
  | agg hl _ _ ih => exact lst hl ih
  | tup hl _ ih => exact lst hl ih
  | fn hl _ ih => exact lst hl ih
  | ifc _ ih => exact ih
  | yl => rfl
  | bp _ hk _ => simp [AV.under]; omega
  | bxs _ hk _ => simp [AV.under]; omega
  | os _ hk _ _ => simp [AV.under]; omega
  | op _ hk _ _ => simp [AV.under]; omega

theorem Cx.Ok.under {X : Cx} (h : X.Ok) {k : Nat} {e : Ent} (hk : X.H[k]? = some e) {n : Nat} (hn : X.E.length ≤ n) : Ent.under n e = true := by
  obtain ⟨e', hE, hr⟩ := h.hec hk
  cases e <;> cases e' <;> simp only [EntRel] at hr <;> simp only [Ent.under]
  · obtain ⟨_, arr, T, _, hl, _, hp⟩ := hr
    rw [underL_iff]
    intro c hc
    obtain ⟨i, hi⟩ := List.mem_iff_getElem?.1 hc
    have hlt := (List.getElem?_eq_some_iff.1 hi).1
    exact (hp i c arr[i] hi (Array.getElem?_eq_getElem (by omega))).under hn
  · obtain ⟨_, _, ⟨a, _, rfl⟩ | ⟨b, cap, arr, T, _, _, _, _, _, _, hp⟩⟩ := hr
    · rfl
    · rw [underLL_iff]
      intro x hx
      rw [underL_iff]
      intro c hc
      obtain ⟨i, hi⟩ := List.mem_iff_getElem?.1 hx
      obtain ⟨j, hj⟩ := List.mem_iff_getElem?.1 hc
      obtain ⟨v, _, hv⟩ := hp i j x c hi hj
      exact hv.under hn

theorem isNilSl_eq {v : AV} (h : isNilSl v = true) : v = .sc (.slice none 0 0) := by
  unfold isNilSl at h
  split at h
  · rfl
  · cases h

section
variable {P : Program} {E : Env} {C : CF} {Y : List YF} {L : List Nat} {F : Fence} {nt : Nat} {X0 : Cx}

/-- What lay there when the call began leads nowhere new; so it leads to nothing of the call's own. -/
theorem StRel.old (h0 : X0.Ok) {st : St} {a : Act} {X : Cx} (h : StRel X0 L nt st a X) {k : Nat} {e : Ent} (hk : k < st.b) (he : X.H[k]? = some e) {n : Nat} (hn : st.b ≤ n) : Ent.under n e = true := by
  have hk0 : k < X0.H.length := by have := h.b; have := h0.len; omega
  obtain ⟨h', h1, h2⟩ := h.ref k X0.H[k] hk (List.getElem?_eq_getElem hk0)
  rw [← h.hH, he] at h1
  cases h1
  exact h2 n (h0.under (List.getElem?_eq_getElem hk0) (by have := h.b; omega))

theorem mapTm_get (tm : Slots) : ∀ (ts : List Nat) (t : Nat), (Slots.get (ts.map fun t => (t, tm.get t)) t = tm.get t ∧ t ∈ ts) ∨ Slots.get (ts.map fun t => (t, tm.get t)) t = .und := onlyOf_get tm

theorem ghost_sound (h0 : X0.Ok) {g : Ghost} {st st' : St} {a : Act} {X : Cx} (hS : StRel X0 L nt st a X) (h : ghost g st = some st') : ∃ X', X'.w = X.w ∧ StRel X0 L nt st' a X' := by
  have hb : st.b ≤ st.H.length := by rw [hS.b, ← hS.hH, ← hS.ok.len]; exact hS.trans.lenE h0
  have href := ghost_ref hb h
  -- put together
  have fin : ∀ X', X'.w = X.w → X'.Ok → Trans X0 X' → X'.H = st'.H → SRel X' L st'.tm a.tmps → ∃ X', X'.w = X.w ∧ StRel X0 L nt st' a X' := by
    intro X' hw hok ht hH hsl
    refine ⟨X', hw, hok, ht, hH, hsl, hS.size, href.1.trans hS.b, href.1.symm ▸ hS.ref.trans href.2.2, ?_⟩
    obtain ⟨rs, h1, h2, h3⟩ := hS.defs
    exact ⟨rs, h1, h2, fun r hr => ⟨(h3 r hr).1, by rw [hw]; exact (h3 r hr).2⟩⟩
  have hsz : Later X.w X.w := .refl _
  unfold ghost at h
  split at h
  · rename_i slots m
    simp only at h
    split at h
    · rename_i hc
      simp only [Bool.and_eq_true, List.all_eq_true] at hc
      cases h
      have hun : ∀ (k : Nat) e, k < st.b + m → X.H[k]? = some e → Ent.under (st.b + m) e = true := by
        intro k e hk he
        by_cases hkb : k < st.b
        · exact hS.old h0 hkb he (by omega)
        · refine hc.2 e (List.mem_of_getElem? (i := k - st.b) ?_)
          rw [List.getElem?_drop, List.getElem?_take, if_pos (by omega), ← hS.hH]
          rw [show st.b + (k - st.b) = k from by omega]
          exact he
      refine fin (X.cut (st.b + m)) rfl (Cx.cut_ok hS.ok hun) (hS.trans.cut (by have := hS.b; omega)) (by simp [Cx.cut, hS.hH]) fun t => ?_
      rcases mapTm_get st.tm slots t with ⟨h1, h2⟩ | h1
      · simp only [h1]
        refine (hS.slots t).cut ?_
        exact hc.1 (t, st.tm.get t) (List.mem_map.2 ⟨t, h2, rfl⟩)
      · simp only [h1]
        exact .frz (.und _)
    · cases h
  · rename_i s
    split at h
    · rename_i k off len vr hs
      split at h
      · rename_i hk
        split at h
        · rename_i p z xs hsn
          split at h
          · rename_i hp
            subst hp
            cases h
            have hsl := hS.slots s
            rw [hs] at hsl
            rw [← hS.hH] at hsn
            obtain ⟨vr', z', ys, hHk⟩ : ∃ vr' z' ys, X.H[k]? = some (.own vr' z' ys) := by
              simp only [snap] at hsn
              split at hsn
              · exact ⟨_, _, _, by assumption⟩
              · cases hsn
            obtain ⟨e, hE, hr⟩ := hS.ok.hec hHk
            cases e <;> simp only [EntRel] at hr
            rename_i hdr
            have tr : Trans X (X.put X.w k (.own hdr) .dead .dead) := Cx.put_trans hS.ok hHk hE hsz (fun _ _ _ => rfl) (fun b hb => by cases hb) trivial
            have hok : (X.put X.w k (.own hdr) .dead .dead).Ok := Cx.put_ok hS.ok hHk hE hsz (fun _ _ _ => rfl) (fun b hb => by cases hb) (fun b hb => by cases hb) trivial (fun _ => trivial)
            refine fin (X.put X.w k (.own hdr) .dead .dead) rfl hok (hS.trans.trans tr) (by simp [Cx.put, hS.hH]) fun t => ?_
            rw [get_put]
            split
            · rename_i hst
              subst hst
              refine .frz ((snap_at hS.ok hsn hsl).frel rfl (fun b hm => ?_) fun b hb => ⟨hb.1, fun hm => ?_⟩)
              · rcases hm with hm | hm
                · exact hm.1
                · cases hm
              · rcases hm with hm | hm
                · rcases hb.2 with h1 | ⟨k', e', hk', hE', he'⟩
                  · exact h1 hm.1
                  · rcases hk' with ⟨_, _, _, hk'⟩ | ⟨_, _, _, hk'⟩
                    · cases hk'
                      rw [hE] at hE'
                      cases hE'
                      exact hm.2 he'
                    · cases hk'
                · cases hm
            · exact (hS.slots t).trans tr hS.ok
          · cases h
        · cases h
      · cases h
    · cases h
  · rename_i s z
    split at h
    · rename_i hc
      cases h
      have hnil := isNilSl_eq hc.1
      have hsl := hS.slots s
      rw [hnil] at hsl
      have hv := hsl.sc_inv
      have tr : Trans X (X.push X.w (.own 0 z []) (.own (.slice none 0 0))) := Cx.push_trans hS.ok hsz (fun _ _ => rfl) (fun b hb => by cases hb)
      have hok : (X.push X.w (.own 0 z []) (.own (.slice none 0 0))).Ok := Cx.push_ok hS.ok hsz (fun _ _ => rfl) (fun b hb => by cases hb) (fun b hb => by cases hb) (fun _ => ⟨hc.2, fun x hx => by simp at hx, .inl ⟨none, rfl, rfl⟩⟩)
      refine fin (X.push X.w (.own 0 z []) (.own (.slice none 0 0))) rfl hok (hS.trans.trans tr) (by simp [Cx.push, hS.hH]) fun t => ?_
      rw [get_put]
      split
      · rename_i hst
        subst hst
        rw [hv, ← hS.hH]
        refine .os rfl (by simp [Cx.push, hS.ok.len]) (.inl ⟨0, z, [], by simp [Cx.push], Nat.le_refl _⟩) fun z' xs hdr hH hE => ?_
        simp [Cx.push] at hH
        simp [Cx.push, ← hS.ok.len] at hE
        subst hE
        exact ⟨rfl, rfl, rfl⟩
      · exact (hS.slots t).trans tr hS.ok
    · cases h
  · rename_i s off z
    split at h
    · rename_i k o hs
      split at h
      · rename_i cs hHk
        split at h
        · rename_i v hv
          split at h
          · rename_i hc
            cases h
            have hnil := isNilSl_eq hc.1
            subst hnil
            rw [← hS.hH] at hHk
            have hkl := (List.getElem?_eq_some_iff.1 hHk).1
            obtain ⟨e, hE, hr⟩ := hS.ok.hec hHk
            cases e <;> simp only [EntRel] at hr
            rename_i b
            obtain ⟨hMb, arr, T, harr, hsize, hone, hcells⟩ := hr
            have tr : Trans X (X.push X.w (.own 0 z []) (.own (.slice none 0 0))) := Cx.push_trans hS.ok hsz (fun _ _ => rfl) (fun b hb => by cases hb)
            have hok : (X.push X.w (.own 0 z []) (.own (.slice none 0 0))).Ok := Cx.push_ok hS.ok hsz (fun _ _ => rfl) (fun b hb => by cases hb) (fun b hb => by cases hb) (fun _ => ⟨hc.2.1, fun x hx => by simp at hx, .inl ⟨none, rfl, rfl⟩⟩)
            obtain ⟨X1, hX1⟩ : ∃ X1, X1 = X.push X.w (.own 0 z []) (.own (.slice none 0 0)) := ⟨_, rfl⟩
            rw [← hX1] at tr hok
            have hw1 : X1.w = X.w := by rw [hX1]; rfl
            have hH1 : X1.H[k]? = some (.box cs) := by rw [hX1]; exact getElem?_old hHk
            have hE1 : X1.E[k]? = some (.box b) := by rw [hX1]; exact getElem?_old hE
            have hHl : X1.H = X.H ++ [.own 0 z []] := by rw [hX1]; rfl
            have hEl : X1.E = X.E ++ [.own (.slice none 0 0)] := by rw [hX1]; rfl
            have hbl : b < X1.w.heap.size := by rw [hw1]; exact hS.ok.bnd b hMb
            have tr2 : Trans X1 (X1.put X1.w k (.box b) (.box (cs.set (o + off) (.os X.H.length 0 0 0))) (.box b)) := Cx.put_trans hok hH1 hE1 (.refl _) (fun _ _ _ => rfl) (fun b' hb' => .inl hb') rfl
            have hok2 : (X1.put X1.w k (.box b) (.box (cs.set (o + off) (.os X.H.length 0 0 0))) (.box b)).Ok := Cx.put_ok hok hH1 hE1 (.refl _) (fun _ _ _ => rfl) (fun b' hb' => .inl hb')
              (fun b' hb' => by cases hb'; exact hbl) rfl (fun tt => by
                refine ⟨.inr rfl, arr, T, by show X1.w.heap[b]? = _; rw [hw1]; exact harr, by simp [hsize], hone, fun j c u hj hu => ?_⟩
                rw [List.getElem?_set] at hj
                split at hj
                · rename_i hjo
                  split at hj
                  · cases hj
                    subst hjo
                    have := (hcells _ _ u hv hu).sc_inv
                    subst this
                    refine .os rfl (by simp [Cx.put, hEl, hS.ok.len]) (.inl ⟨0, z, [], ?_, Nat.le_refl _⟩) fun z' xs hdr hH hE => ?_
                    · simp only [Cx.put, hHl]
                      rw [List.getElem?_set_ne (by omega)]
                      simp
                    · simp only [Cx.put, hEl] at hE
                      rw [List.getElem?_set_ne (by omega), ← hS.ok.len] at hE
                      simp at hE
                      subst hE
                      exact ⟨rfl, rfl, rfl⟩
                  · cases hj
                · exact ((hcells j c u hj hu).trans tr hS.ok).trans tt hok)
            refine fin (X1.put X1.w k (.box b) (.box (cs.set (o + off) (.os X.H.length 0 0 0))) (.box b)) hw1 hok2 (hS.trans.trans (tr.trans tr2)) ?_ fun t => ((hS.slots t).trans tr hS.ok).trans tr2 hok
            simp only [Cx.put, hHl, ← hS.hH]
            rw [List.set_append_left _ _ hkl]
          · cases h
        · cases h
      · cases h
    · cases h
  · rename_i s
    split at h
    · rename_i k o hs
      split at h
      · rename_i hk
        split at h
        · rename_i cs hHk
          split at h
          · rename_i hp
            cases h
            have hsl := hS.slots s
            rw [hs] at hsl
            rw [← hS.hH] at hHk
            obtain ⟨e, hE, hr⟩ := hS.ok.hec hHk
            cases e <;> simp only [EntRel] at hr
            rename_i b
            obtain ⟨hMb, arr, ty, harr, hsize, hone, hcells⟩ := hr
            have tr : Trans X (X.put X.w k (.box b) .dead .dead) := Cx.put_trans hS.ok hHk hE hsz (fun _ _ _ => rfl) (fun b hb => by cases hb) trivial
            have hok : (X.put X.w k (.box b) .dead .dead).Ok := Cx.put_ok hS.ok hHk hE hsz (fun _ _ _ => rfl) (fun b hb => by cases hb) (fun b hb => by cases hb) trivial (fun _ => trivial)
            refine fin (X.put X.w k (.box b) .dead .dead) rfl hok (hS.trans.trans tr) (by simp [Cx.put, hS.hH]) fun t => ?_
            rw [get_put]
            split
            · rename_i hst
              subst hst
              have hv := hsl.bp_inv.2.2 b hE
              rw [hv]
              have hnM : ¬ (X.put X.w k (.box b) .dead .dead).M b := by
                intro hm
                rcases hm with hm | hm
                · exact hm.2 rfl
                · cases hm
              have hMs : ∀ b', (X.put X.w k (.box b) .dead .dead).M b' → X.M b' := by
                intro b' hm
                rcases hm with hm | hm
                · exact hm.1
                · cases hm
              have hcell : ∀ (j : Nat) c, (cs.drop o)[j]? = some c → ∃ u, arr[o + j]? = some u ∧ cs[o + j]? = some c := fun j c hj => by
                rw [List.getElem?_drop] at hj
                have hlt := (List.getElem?_eq_some_iff.1 hj).1
                exact ⟨_, Array.getElem?_eq_getElem (by omega), hj⟩
              refine .frz (.fp (fun j => (arr[o + j]?).getD (.bool true)) rfl (hS.ok.bnd b hMb) hnM (fun j c hj => ?_) (fun j c hj => ?_) (fun j c hj => ?_))
              · obtain ⟨u, h1, h2⟩ := hcell j c hj
                rw [h1]
                exact (cell_of_blk harr).trans h1
              · obtain ⟨u, h1, h2⟩ := hcell j c hj
                rw [h1]
                exact hone _ _ h1
              · obtain ⟨u, h1, h2⟩ := hcell j c hj
                rw [h1]
                exact ((hcells _ c u h2 h1).pure (pureL_get hp _ _ h2)).keep (Nat.le_refl _) fun b' _ hm => ⟨rfl, fun h => hm (hMs b' h)⟩
            · exact (hS.slots t).trans tr hS.ok
          · cases h
        · cases h
      · cases h
    · cases h

end
end Go.Abs
