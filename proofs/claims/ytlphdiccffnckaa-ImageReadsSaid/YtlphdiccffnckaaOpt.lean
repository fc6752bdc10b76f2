/- Lending and handing back: slices that are written no more. -/
import Derived.Test.YtlphdiccffnckaaOps
namespace Go.Abs

section
variable {X : Cx} {L : List Nat}

/-- Read where the slice lies, it is a slice that nobody writes. -/
theorem SlAt.frel {B : Nat → Prop} {z : Nat} {ys : List (List AV)} {v : Value} (h : SlAt X true B z ys v) {w : World} {M : Nat → Prop} (hw : w.heap = X.w.heap) (hM : ∀ b, M b → X.M b)
    (hB : ∀ b, B b → b < X.w.heap.size ∧ ¬ M b) : FRel w M (.sl false z ys) v := by
  obtain ⟨a, cap, rfl, hc, hne⟩ := h
  by_cases hys : ys = []
  · subst hys
    exact .slE (by simp)
  · obtain ⟨ad, rfl, hs, hb, hrow, hcell⟩ := hne hys
    have hk : ∀ {a : AV} {v : Value}, FRel X.w X.M a v → FRel w M a v := fun h => h.keep (by rw [hw]; exact Nat.le_refl _) fun b _ hm => ⟨by rw [hw], fun h => hm (hM b h)⟩
    have hex : ∀ i j, ∃ u, ∀ x c, ys[i]? = some x → x[j]? = some c → X.w.cell? ⟨ad.block, ad.off + (i * z + j), none⟩ = some u ∧ u.oneCell' = true ∧ FRel X.w X.M c u := by
      intro i j
      by_cases hx : ∃ x c, ys[i]? = some x ∧ x[j]? = some c
      · obtain ⟨x, c, hx, hc⟩ := hx
        obtain ⟨u, h1, h2, _, h3⟩ := hcell i j x c hx hc
        refine ⟨u, fun x' c' hx2 hc2 => ?_⟩
        rw [hx] at hx2
        cases hx2
        rw [hc] at hc2
        cases hc2
        exact ⟨h1, h2, h3 rfl⟩
      · exact ⟨undef, fun x c h1 h2 => absurd ⟨x, c, h1, h2⟩ hx⟩
    obtain ⟨h1, h2⟩ := hB _ hb
    refine .sl (fun i j => (hex i j).choose) rfl hc (by simp) hs (by rw [hw]; exact h1) h2 hrow (fun i j x c h1 h2 => ?_)
      (fun i j x c h1 h2 => ((hex i j).choose_spec x c h1 h2).2.1) (fun i j x c h1 h2 => hk ((hex i j).choose_spec x c h1 h2).2.2)
    have := ((hex i j).choose_spec x c h1 h2).1
    simp only [World.cell?, hw] at this ⊢
    exact this

/-- The context of a call to which all memory is lent. -/
def Cx.lent (X : Cx) : Cx := { w := X.w, M := fun b => X.M b ∧ ¬ X.holds b, E := [], H := [] }
/-- The context of a call that is handed no memory of ours. -/
def Cx.bare (X : Cx) : Cx := { w := X.w, M := X.M, E := [], H := [] }

theorem Cx.lent_ok (hX : X.Ok) : X.lent.Ok where
  len := rfl
  bnd := fun b hm => hX.bnd b hm.1
  ent := fun k h e hH _ => by simp [Cx.lent] at hH
  apart := fun i j e e' b hi _ => by simp [Cx.lent] at hi
theorem Cx.bare_ok (hX : X.Ok) : X.bare.Ok where
  len := rfl
  bnd := hX.bnd
  ent := fun k h e hH _ => by simp [Cx.bare] at hH
  apart := fun i j e e' b hi _ => by simp [Cx.bare] at hi

theorem lend_run (hX : X.Ok) {a r : AV} (h : lend X.H a = some r) {v : Value} (hv : VRel X L a v) : FRel X.lent.w X.lent.M r v := by
  unfold lend at h
  split at h
  · rename_i hp
    cases h
    exact (hv.pure hp).keep (Nat.le_refl _) fun b _ hm => ⟨rfl, fun h => hm h.1⟩
  · split at h
    · rename_i p z xs hs
      split at h
      · rename_i hp
        cases h
        subst hp
        exact (snap_at hX hs hv).frel rfl (fun b h => h.1) fun b hb => ⟨hb.1, fun h => by
          rcases hb.2 with h1 | ⟨k, e, _, hE, he⟩
          · exact h1 h.1
          · exact h.2 ⟨k, e, hE, he⟩⟩
      · cases h
    · cases h

theorem flat_any {X X' : Cx} {L L' : List Nat} {a : AV} {v : Value} (hv : VRel X L a v) (h : AV.flat a = true) : VRel X' L' a v := by
  have flatL_get : ∀ {cs : List AV}, AV.flatL cs = true → ∀ (i : Nat) c, cs[i]? = some c → AV.flat c = true := by
    intro cs
    induction cs with
    | nil => intro _ i c hc; simp at hc
    | cons x cs ih =>
      intro h i c hc
      simp only [AV.flatL, Bool.and_eq_true] at h
      cases i with
      | zero => simp at hc; exact hc ▸ h.1
      | succ i => exact ih h.2 i c (by simpa using hc)
  have frz : ∀ {a : AV} {v : Value}, FRel X.w X.M a v → AV.flat a = true → VRel X' L' a v := by
    intro a v hf
    induction hf with
    | und v => intro h; simp [AV.flat] at h
    | sc v => intro _; exact .frz (.sc _)
    | agg hl h1 _ ih => intro h; exact .agg hl h1 fun i c v hc hv => ih i c v hc hv (flatL_get h i c hc)
    | tup hl _ ih => intro h; exact .tup hl fun i c v hc hv => ih i c v hc hv (flatL_get h i c hc)
    | fn => intro h; simp [AV.flat] at h
    | ifc => intro h; simp [AV.flat] at h
    | slE => intro h; simp [AV.flat] at h
    | nsl => intro h; simp [AV.flat] at h
    | sl => intro h; simp [AV.flat] at h
    | fp => intro h; simp [AV.flat] at h
  induction hv with
  | frz hf => exact frz hf h
  | agg hl h1 _ ih => exact .agg hl h1 fun i c v hc hv => ih i c v hc hv (flatL_get h i c hc)
  | tup hl _ ih => exact .tup hl fun i c v hc hv => ih i c v hc hv (flatL_get h i c hc)
  | fn => simp [AV.flat] at h
  | ifc => simp [AV.flat] at h
  | yl => simp [AV.flat] at h
  | bp => simp [AV.flat] at h
  | bxs => simp [AV.flat] at h
  | os => simp [AV.flat] at h
  | op => simp [AV.flat] at h

theorem mapO_get {α β : Type} {f : α → Option β} : ∀ {l : List α} {r : List β}, mapO f l = some r → r.length = l.length ∧ ∀ (i : Nat) y, r[i]? = some y → ∃ x, l[i]? = some x ∧ f x = some y
  | [], r, h => by
    simp only [mapO, Option.some.injEq] at h
    subst h
    simp
  | x :: l, r, h => by
    simp only [mapO] at h
    obtain ⟨y, h1, h2⟩ := Option.bind_eq_some_iff.1 h
    obtain ⟨r', h3, rfl⟩ := Option.map_eq_some_iff.1 h2
    obtain ⟨h4, h5⟩ := mapO_get h3
    refine ⟨by simp [h4], fun i z hz => ?_⟩
    cases i with
    | zero => simp at hz; exact ⟨x, rfl, hz ▸ h1⟩
    | succ i => exact h5 i z (by simpa using hz)

/-- What is handed back, in the context without the call's own entities. -/
theorem freeze_run (hX : X.Ok) {n : Nat} : ∀ (d : Nat) (a r : AV) (v : Value) (L : List Nat), AV.freeze n X.H d a = some r → VRel X L a v → VRel (X.cut n) L r v
  | 0, _, _, _, _, h, _ => by simp [AV.freeze] at h
  | d + 1, a, r, v, L, h, hv => by
    have under : (if AV.under n a = true then some a else none) = some r → VRel (X.cut n) L r v := by
      intro h
      split at h
      · rename_i hu
        cases h
        exact hv.cut hu
      · cases h
    have cells : ∀ {cs rs : List AV} {vs : Array Value}, mapO (AV.freeze n X.H d) cs = some rs → vs.size = cs.length → (∀ (i : Nat) c v, cs[i]? = some c → vs[i]? = some v → VRel X L c v) →
        vs.size = rs.length ∧ ∀ (i : Nat) c v, rs[i]? = some c → vs[i]? = some v → VRel (X.cut n) L c v := by
      intro cs rs vs hm hl hp
      obtain ⟨h1, h2⟩ := mapO_get hm
      refine ⟨by omega, fun i c v hc hv => ?_⟩
      obtain ⟨x, hx, hf⟩ := h2 i c hc
      exact freeze_run hX d x c v L hf (hp i x v hx hv)
    have ofk : ∀ k, n ≤ k → ∀ a, ((∃ off len vr, a = AV.os k off len vr) ∨ ∃ off len z, a = AV.bxs k off len z) → ∀ b, OfSl X a b → b < X.w.heap.size ∧ ¬ (X.cut n).M b := by
      intro k hk a ha b hb
      refine ⟨hb.1, fun hm => ?_⟩
      rcases hb.2 with h1 | ⟨k', e, hk', hE, he⟩
      · exact h1 hm.1
      · have : k' = k := by
          rcases ha with ⟨_, _, _, rfl⟩ | ⟨_, _, _, rfl⟩
          · rcases hk' with ⟨_, _, _, h⟩ | ⟨_, _, _, h⟩
            · cases h; rfl
            · cases h
          · rcases hk' with ⟨_, _, _, h⟩ | ⟨_, _, _, h⟩
            · cases h
            · cases h; rfl
        subst this
        exact hm.2 k' e hk hE he
    simp only [AV.freeze] at h
    split at h
    · rename_i k off len vr
      split at h
      · rename_i hk
        cases h
        exact hv.cut (by simpa [AV.under] using hk)
      · rename_i hk
        obtain ⟨⟨p, z, xs⟩, hs, h⟩ := Option.bind_eq_some_iff.1 h
        obtain ⟨ys, hys, rfl⟩ := Option.map_eq_some_iff.1 h
        obtain ⟨hlen, hrow⟩ := mapO_get hys
        have hat := snap_at hX hs hv
        obtain ⟨a, cap, rfl, hc, hne⟩ := hat
        simp only at hlen hrow
        by_cases hnil : xs = []
        · subst hnil
          have : ys = [] := List.eq_nil_of_length_eq_zero (by simpa using hlen)
          subst this
          exact .frz (.slE (by simp))
        · obtain ⟨ad, rfl, hsp, hb, hz, hcell⟩ := hne hnil
          obtain ⟨hb1, hb2⟩ := ofk k (by omega) _ (.inl ⟨_, _, _, rfl⟩) _ hb
          have hex : ∀ i j, ∃ u, ∀ y c, ys[i]? = some y → y[j]? = some c → X.w.cell? ⟨ad.block, ad.off + (i * z + j), none⟩ = some u ∧ u.oneCell' = true ∧ FRel (X.cut n).w (X.cut n).M c u := by
            intro i j
            by_cases hy : ∃ y c, ys[i]? = some y ∧ y[j]? = some c
            · obtain ⟨y, c, hy, hc⟩ := hy
              obtain ⟨x, hx, hfx⟩ := hrow i y hy
              split at hfx
              · rename_i hp
                cases hfx
                obtain ⟨u, h1, h2, h3, _⟩ := hcell i j _ c hx hc
                refine ⟨u, fun y' c' hy2 hc2 => ?_⟩
                rw [hy] at hy2
                cases hy2
                rw [hc] at hc2
                cases hc2
                exact ⟨h1, h2, (h3.pure (pureL_get hp j c hc)).cut⟩
              · obtain ⟨y2, hm, hfx⟩ := Option.bind_eq_some_iff.1 hfx
                split at hfx
                · rename_i hp
                  cases hfx
                  obtain ⟨hl2, hg⟩ := mapO_get hm
                  obtain ⟨c0, hc0, hf0⟩ := hg j c hc
                  obtain ⟨u, h1, h2, h3, _⟩ := hcell i j x c0 hx hc0
                  refine ⟨u, fun y' c' hy2 hc2 => ?_⟩
                  rw [hy] at hy2
                  cases hy2
                  rw [hc] at hc2
                  cases hc2
                  exact ⟨h1, h2, (freeze_run hX d c0 c u [] hf0 h3).pure (pureL_get hp j c hc)⟩
                · cases hfx
            · exact ⟨undef, fun y c h1 h2 => absurd ⟨y, c, h1, h2⟩ hy⟩
          refine .frz (.sl (fun i j => (hex i j).choose) hlen.symm (by omega) (by simp) hsp hb1 hb2 (fun y hy => ?_) (fun i j y c h1 h2 => ((hex i j).choose_spec y c h1 h2).1)
            (fun i j y c h1 h2 => ((hex i j).choose_spec y c h1 h2).2.1) (fun i j y c h1 h2 => ((hex i j).choose_spec y c h1 h2).2.2))
          obtain ⟨i, hi⟩ := List.mem_iff_getElem?.1 hy
          obtain ⟨x, hx, hfx⟩ := hrow i y hi
          split at hfx
          · cases hfx
            exact hz _ (List.mem_of_getElem? hx)
          · obtain ⟨y2, hm, hfx⟩ := Option.bind_eq_some_iff.1 hfx
            split at hfx
            · cases hfx
              rw [(mapO_get hm).1]
              exact hz x (List.mem_of_getElem? hx)
            · cases hfx
    · rename_i k off len z
      split at h
      · rename_i hk
        cases h
        exact hv.cut (by simpa [AV.under] using hk)
      · rename_i hk
        obtain ⟨⟨p, z', xs⟩, hs, rfl⟩ := Option.map_eq_some_iff.1 h
        have hp : p = true := by
          simp only [snap] at hs
          split at hs
          · split at hs
            · cases hs; rfl
            · cases hs
          · cases hs
        subst hp
        exact .frz ((snap_at hX hs hv).frel rfl (fun b h => h.1) fun b hb => ofk k (by omega) _ (.inr ⟨_, _, _, rfl⟩) b hb)
    · rename_i cs
      obtain ⟨rs, hm, rfl⟩ := Option.map_eq_some_iff.1 h
      obtain ⟨vs, rfl, hl, h1, hp⟩ := hv.agg_inv
      obtain ⟨q1, q2⟩ := cells hm hl hp
      exact .agg q1 h1 q2
    · rename_i cs
      obtain ⟨rs, hm, rfl⟩ := Option.map_eq_some_iff.1 h
      obtain ⟨vs, rfl, hl, hp⟩ := hv.tup_inv
      obtain ⟨q1, q2⟩ := cells hm hl hp
      exact .tup q1 q2
    · rename_i t u
      obtain ⟨r', hm, rfl⟩ := Option.map_eq_some_iff.1 h
      obtain ⟨u', rfl, hp⟩ := hv.ifc_inv
      exact .ifc (freeze_run hX d u r' u' L hm hp)
    · exact under h
end
end Go.Abs
