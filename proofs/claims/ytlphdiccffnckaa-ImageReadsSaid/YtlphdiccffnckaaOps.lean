/- Parts of slices; copying; lengths; least and greatest. -/
import Derived.Test.YtlphdiccffnckaaOpr
namespace Go.Abs

/-- An operand that may lack. -/
def ORel (X : Cx) (L : List Nat) : Option AV → Option Value → Prop
  | none, none => True
  | some a, some v => VRel X L a v
  | _, _ => False

section
variable {P : Program} {T : TT} (hT : TOk P T) {X : Cx} {L : List Nat}

theorem bound_run {d n : Nat} {o : Option AV} {v : Option Value} (h : bound d o = some n) (hr : ORel X L o v) :
    (v = none ∧ n = d) ∨ ∃ k i, v = some (.int k i) ∧ 0 ≤ i ∧ n = i.toNat := by
  unfold bound at h
  split at h
  · cases v with
    | none => cases h; exact .inl ⟨rfl, rfl⟩
    | some _ => simp [ORel] at hr
  · cases v with
    | none => simp [ORel] at hr
    | some v =>
      split at h
      · rename_i hi
        cases h
        simp only [ORel] at hr
        exact .inr ⟨_, _, by rw [hr.sc_inv], hi, rfl⟩
      · cases h
  · cases h

theorem sliceBound_run {k : IntKind} {i : Int} {y : Nat} {code : BoundsCode} (h0 : 0 ≤ i) (h : i.toNat ≤ y) (w : World) : (Instr.sliceBound (.int k i) y code).run P w = .ok i.toNat w := by
  have hc : 0 ≤ i ∧ i ≤ (y : Int) := by omega
  simp [Instr.sliceBound, asIntOf, hc]

/-- The bounds of a slice expression. -/
theorem sliceBounds_run {isS : Bool} {len cap l h : Nat} {lo hi : Option AV} {lv hv : Option Value} (hl : bound 0 lo = some l) (hh : bound len hi = some h) (rl : ORel X L lo lv) (rh : ORel X L hi hv)
    (h1 : l ≤ h) (h2 : h ≤ cap) (w : World) : (Instr.sliceBounds isS len cap lv hv none).run P w = .ok (l, h, cap) w := by
  rcases bound_run hl rl with ⟨rfl, rfl⟩ | ⟨k, i, rfl, hi0, rfl⟩
  · rcases bound_run hh rh with ⟨rfl, rfl⟩ | ⟨k', i', rfl, hi0', rfl⟩
    · simp [Instr.sliceBounds]
    · simp only [Instr.sliceBounds, Sem.run_bind, Sem.run_pure, Result.andThen_ok, sliceBound_run hi0' h2]
  · rcases bound_run hh rh with ⟨rfl, rfl⟩ | ⟨k', i', rfl, hi0', rfl⟩
    · simp only [Instr.sliceBounds, Sem.run_bind, Sem.run_pure, Result.andThen_ok, sliceBound_run hi0 h1]
    · simp only [Instr.sliceBounds, Sem.run_bind, Sem.run_pure, Result.andThen_ok, sliceBound_run hi0' h2, sliceBound_run hi0 h1]

theorem sliceBounds_run3 {isS : Bool} {len cap l h m d : Nat} {lo hi : Option AV} {mx : AV} {lv hv : Option Value} {mv : Value} (hl : bound 0 lo = some l) (hh : bound len hi = some h) (hm : bound d (some mx) = some m)
    (rl : ORel X L lo lv) (rh : ORel X L hi hv) (rm : VRel X L mx mv) (h1 : l ≤ h) (h2 : h ≤ m) (h3 : m ≤ cap) (w : World) (hsome : hi.isSome = true) :
    (Instr.sliceBounds isS len cap lv hv (some mv)).run P w = .ok (l, h, m) w := by
  rcases bound_run (v := some mv) hm rm with ⟨hn, _⟩ | ⟨km, im, hm1, hm0, rfl⟩
  · cases hn
  · cases hm1
    rcases bound_run hh rh with ⟨rfl, _⟩ | ⟨k', i', rfl, hi0', rfl⟩
    · cases hi with
      | none => cases hsome
      | some _ => simp [ORel] at rh
    · rcases bound_run hl rl with ⟨rfl, rfl⟩ | ⟨k, i, rfl, hi0, rfl⟩
      · simp only [Instr.sliceBounds, Sem.run_bind, Sem.run_pure, Result.andThen_ok, sliceBound_run hm0 h3, sliceBound_run hi0' h2]
      · simp only [Instr.sliceBounds, Sem.run_bind, Sem.run_pure, Result.andThen_ok, sliceBound_run hm0 h3, sliceBound_run hi0' h2, sliceBound_run hi0 h1]

/-- A part of a slice that nobody writes. -/
theorem part_rel {f f' : Bool} {z : Nat} {xs : List (List AV)} {a : Option Addr} {cap l h m : Nat} (hv : VRel X L (.sl f z xs) (.slice a xs.length cap)) (h1 : l ≤ h) (h2 : h ≤ xs.length) (h3 : h ≤ m)
    (hf : f' = true → m = h) : VRel X L (.sl f' z ((xs.drop l).take (h - l))) (.slice (if m = l then a else a.map (·.add (l * z))) (h - l) (m - l)) := by
  have hlen : ((xs.drop l).take (h - l)).length = h - l := by simp; omega
  by_cases he : h = l
  · subst he
    have : (xs.drop h).take (h - h) = [] := by simp
    rw [this, Nat.sub_self]
    exact .frz (.slE fun hh => by have := hf hh; omega)
  · obtain ⟨a', cap', hva, hc, hff, hne⟩ := hv.sl_inv
    cases hva
    obtain ⟨hz, ad, rfl, hs, hb, hM, hcell⟩ := hne (by rintro rfl; simp at h2; omega)
    rw [if_neg (by omega)]
    simp only [Option.map_some, add_none hs]
    have hex : ∀ i j, ∃ u, ∀ x c, ((xs.drop l).take (h - l))[i]? = some x → x[j]? = some c → X.w.cell? ⟨ad.block, ad.off + l * z + (i * z + j), none⟩ = some u ∧ u.oneCell' = true ∧ FRel X.w X.M c u := by
      intro i j
      by_cases hx : ∃ x c, ((xs.drop l).take (h - l))[i]? = some x ∧ x[j]? = some c
      · obtain ⟨x, c, hx, hc⟩ := hx
        have hx' := hx
        rw [List.getElem?_take] at hx'
        split at hx'
        · rw [List.getElem?_drop] at hx'
          obtain ⟨u, hu⟩ := hcell (l + i) j x c hx' hc
          refine ⟨u, fun x' c' hx2 hc2 => ?_⟩
          rw [hx] at hx2
          cases hx2
          rw [hc] at hc2
          cases hc2
          rw [show ad.off + l * z + (i * z + j) = ad.off + ((l + i) * z + j) by rw [Nat.add_mul]; omega]
          exact hu
        · cases hx'
      · exact ⟨undef, fun x c h1 h2 => absurd ⟨x, c, h1, h2⟩ hx⟩
    refine .frz (.sl (fun i j => (hex i j).choose) hlen.symm (by omega) (fun hh => by have := hf hh; omega) rfl hb hM (fun x hx => hz x (List.mem_of_mem_drop (List.mem_of_mem_take hx)))
      (fun i j x c h1 h2 => ((hex i j).choose_spec x c h1 h2).1) (fun i j x c h1 h2 => ((hex i j).choose_spec x c h1 h2).2.1) (fun i j x c h1 h2 => ((hex i j).choose_spec x c h1 h2).2.2))

include hT in
theorem aSlice_run (hX : X.Ok) {t : Nat} {x r : AV} {lo hi mx : Option AV} (h : aSlice T X.H t x lo hi mx = some r) {v : Value} {lv hv mv : Option Value} (hx : VRel X L x v) (rl : ORel X L lo lv) (rh : ORel X L hi hv)
    (rm : ORel X L mx mv) : ∃ q, (Instr.sliceAt t v lv hv mv).run P X.w = .ok q X.w ∧ VRel X L r q := by
  unfold aSlice at h
  split at h
  · rename_i n z g ha
    obtain ⟨e, i, d, hu, hi', hsz, _⟩ := hT.arr _ _ _ _ ha
    split at h
    · rename_i l hh k off hbl hbh
      split at h
      · rename_i hc
        obtain ⟨h1, h2, h3, h4⟩ := hc
        cases h
        obtain ⟨b, o, rfl, hsh⟩ := alive_addr hX h4 hx
        have hk := hx.bp_inv
        simp only [alive] at h4
        split at h4
        · rename_i cs hH
          obtain ⟨e', hE, hr⟩ := hX.hec hH
          cases e' <;> simp only [EntRel] at hr
          rename_i b'
          have hbb := hk.2.2 b' hE
          cases hbb
          cases mv with
          | some _ => simp [ORel] at rm
          | none =>
            have hne : ¬ (n = l) := by omega
            refine ⟨.slice (some ⟨b, off + l * z, none⟩) (hh - l) (n - l), ?_, .bxs rfl hk.1 fun b2 hb2 => ?_⟩
            · simp only [Instr.sliceAt, Sem.run_bind, run_underlying hu, Result.andThen_ok, Instr.sureAddr, Sem.run_pure, sliceBounds_run hbl hbh rl rh h1 h2, Go.sizeOf, typeInfo, run_program, hi', hsz, if_neg hne, add_at]
            · rw [hE] at hb2
              cases hb2
              exact ⟨_, rfl, by omega⟩
        · cases h4
      · cases h
    · cases h
  · rename_i hna
    split at h
    · cases h
    · rename_i z eb he
      obtain ⟨e, i, zv, hu, hii, hsz, _⟩ := hT.elem _ _ _ he
      split at h
      · split at h
        · rename_i hb1 hb2 hb3
          split at h
          · rename_i hsome
            cases h
            rw [hx.sc_inv]
            refine ⟨.slice none 0 0, ?_, .frz (.sc _)⟩
            cases mx with
            | none =>
              cases mv with
              | some _ => simp [ORel] at rm
              | none =>
                simp only [Instr.sliceAt, Sem.run_bind, run_underlying hu, Result.andThen_ok, Instr.slice, sliceBounds_run hb1 hb2 rl rh (Nat.le_refl _) (Nat.le_refl _), Go.sizeOf, typeInfo, run_program, hii, Sem.run_pure]
                rfl
            | some mx =>
              cases mv with
              | none => simp [ORel] at rm
              | some mv =>
                cases hi with
                | none => simp at hsome
                | some hi =>
                  simp only [Instr.sliceAt, Sem.run_bind, run_underlying hu, Result.andThen_ok, Instr.slice, sliceBounds_run3 hb1 hb2 hb3 rl rh rm (Nat.le_refl _) (Nat.le_refl _) (Nat.le_refl _) X.w rfl, Go.sizeOf, typeInfo, run_program, hii, Sem.run_pure]
                  rfl
          · cases h
        · cases h
      · rename_i f z' xs
        split at h
        · rename_i l hh hb1 hb2
          split at h
          · rename_i hc
            obtain ⟨rfl, h1, h2⟩ := hc
            obtain ⟨a, cap, rfl, hcap, hf, _⟩ := hx.sl_inv
            split at h
            · cases h
              cases mv with
              | some _ => simp [ORel] at rm
              | none =>
                refine ⟨.slice (if cap = l then a else a.map (·.add (l * z))) (hh - l) (cap - l), ?_, part_rel hx h1 h2 (by omega) fun hff => ?_⟩
                · simp only [Instr.sliceAt, Sem.run_bind, run_underlying hu, Result.andThen_ok, Instr.slice, sliceBounds_run hb1 hb2 rl rh h1 (Nat.le_trans h2 hcap), Go.sizeOf, typeInfo, run_program, hii, Sem.run_pure, hsz]
                · simp only [Bool.and_eq_true] at hff
                  rw [hf hff.1, Nat.eq_of_beq_eq_true hff.2]
            · rename_i m
              split at h
              · rename_i mm hbm
                split at h
                · rename_i hc
                  obtain ⟨h3, h4, h5⟩ := hc
                  cases h
                  cases mv with
                  | none => simp [ORel] at rm
                  | some mv =>
                    refine ⟨.slice (if mm = l then a else a.map (·.add (l * z))) (hh - l) (mm - l), ?_, part_rel hx h1 h2 h3 fun hff => Nat.eq_of_beq_eq_true hff⟩
                    simp only [Instr.sliceAt, Sem.run_bind, run_underlying hu, Result.andThen_ok, Instr.slice, sliceBounds_run3 hb1 hb2 hbm rl rh rm h1 h3 (Nat.le_trans h4 hcap) X.w h5, Go.sizeOf, typeInfo, run_program, hii, Sem.run_pure, hsz]
                · cases h
              · cases h
          · cases h
        · cases h
      · rename_i k off len vr
        split at h
        · rename_i vr' z' xs hk
          split at h
          · rename_i l hh hb1 hb2
            split at h
            · rename_i hc
              obtain ⟨rfl, rfl, h1, h2, h3⟩ := hc
              obtain ⟨e', hE, hr⟩ := hX.hec hk
              cases e' <;> simp only [EntRel] at hr
              rename_i hdr
              obtain ⟨hkl, hver, _, hsub⟩ := hx.os_inv
              replace hsub := hsub z xs hdr hk hE
              obtain ⟨hz, hl, hr⟩ := hr
              cases mv with
              | some _ => simp [ORel] at rm
              | none =>
                have hrun : ∀ a cap, v = .slice a len cap → len ≤ cap → (Instr.sliceAt t v lv hv none).run P X.w = .ok (.slice (if cap = l then a else a.map (·.add (l * z))) (hh - l) (cap - l)) X.w := by
                  intro a cap hv hc
                  subst hv
                  simp only [Instr.sliceAt, Sem.run_bind, run_underlying hu, Result.andThen_ok, Instr.slice, sliceBounds_run hb1 hb2 rl rh h1 (Nat.le_trans h2 hc), Go.sizeOf, typeInfo, run_program, hii, Sem.run_pure, hsz]
                rcases hr with ⟨a, rfl, rfl⟩ | ⟨b, cap, arr, ty, rfl, hm, hb, hs, hcap, _, _⟩
                · simp only [SubSl] at hsub
                  obtain ⟨rfl, rfl, rfl⟩ := hsub
                  have hl0 : l = 0 := by omega
                  have hh0 : hh = 0 := by omega
                  subst hl0
                  subst hh0
                  simp only [if_true] at h
                  cases h
                  refine ⟨_, hrun a 0 rfl (Nat.le_refl _), .os rfl hkl hver fun z' xs' hdr' hH' hE' => ?_⟩
                  rw [hk] at hH'
                  rw [hE] at hE'
                  cases hH'
                  cases hE'
                  exact ⟨rfl, rfl, by simp⟩
                · simp only [SubSl] at hsub
                  have hq := hrun _ _ hsub (by omega)
                  split at h
                  · rename_i hl0
                    subst hl0
                    cases h
                    refine ⟨_, hq, .os rfl hkl hver fun z' xs' hdr' hH' hE' => ?_⟩
                    rw [hk] at hH'
                    rw [hE] at hE'
                    cases hH'
                    cases hE'
                    simp only [SubSl, Nat.zero_mul, Nat.sub_zero]
                    split <;> simp [Addr.add]
                  · split at h
                    · rename_i hl0 hlt
                      cases h
                      rw [if_neg (by omega)] at hq
                      refine ⟨_, hq, .os rfl hkl hver fun z' xs' hdr' hH' hE' => ?_⟩
                      rw [hk] at hH'
                      rw [hE] at hE'
                      cases hH'
                      cases hE'
                      simp only [SubSl, Option.map_some, add_at, Nat.add_mul]
                      congr 1
                      omega
                    · rename_i hl0 hlt
                      cases h
                      have : hh - l = 0 := by omega
                      rw [this] at hq
                      exact ⟨_, hq, .frz (.slE (by simp))⟩
            · cases h
          · cases h
        · cases h
      · cases h

theorem aMin2_run {a b r : AV} (h : aMin2 a b = some r) {u v : Value} (hu : VRel X L a u) (hv : VRel X L b v) : ∃ q, (Builtin.min2 u v).run P X.w = .ok q X.w ∧ VRel X L r q := by
  unfold aMin2 at h
  split at h
  · split at h
    · cases h
      rw [hu.sc_inv, hv.sc_inv]
      exact ⟨_, rfl, .frz (.sc _)⟩
    · cases h
  · cases h

theorem aMax2_run {a b r : AV} (h : aMax2 a b = some r) {u v : Value} (hu : VRel X L a u) (hv : VRel X L b v) : ∃ q, (Builtin.max2 u v).run P X.w = .ok q X.w ∧ VRel X L r q := by
  unfold aMax2 at h
  split at h
  · split at h
    · cases h
      rw [hu.sc_inv, hv.sc_inv]
      exact ⟨_, rfl, .frz (.sc _)⟩
    · cases h
  · cases h

include hT in
theorem aLen_run (hX : X.Ok) {t : Nat} {a r : AV} (h : aLen T X.H t a = some r) {v : Value} (hv : VRel X L a v) {tys : Array TypeId} (h0 : tys[0]? = some t) (ty : TypeId) :
    ∃ q, (Builtin.len_ tys ty #[v]).run P X.w = .ok q X.w ∧ VRel X L r q := by
  unfold aLen at h
  split at h
  · rename_i n z g ha
    cases h
    obtain ⟨e, i, d, hu, _⟩ := hT.arr _ _ _ _ ha
    exact ⟨_, by simp [Builtin.len_, h0, run_underlying hu]; rfl, .frz (.sc _)⟩
  · split at h
    · cases h
    · rename_i z eb he
      obtain ⟨e, i, zv, hu, _⟩ := hT.elem _ _ _ he
      have hrun : ∀ a len cap, (Builtin.len_ tys ty #[.slice a len cap]).run P X.w = .ok (.int .i64 len) X.w := by
        intro a len cap
        simp [Builtin.len_, h0, run_underlying hu, goInt]
      split at h
      · cases h
        rw [hv.sc_inv]
        exact ⟨_, hrun _ _ _, .frz (.sc _)⟩
      · cases h
        obtain ⟨a, cap, rfl, _⟩ := hv.sl_inv
        exact ⟨_, hrun _ _ _, .frz (.sc _)⟩
      · rename_i k off len vr
        split at h
        · rename_i vr' z' xs hk
          split at h
          · rename_i hvr
            subst hvr
            cases h
            obtain ⟨e', hE, hr⟩ := hX.hec hk
            cases e' <;> simp only [EntRel] at hr
            rename_i hdr
            have hsub := hv.os_inv.2.2.2 z' xs hdr hk hE
            obtain ⟨hz, hl, hr⟩ := hr
            rcases hr with ⟨a, rfl, rfl⟩ | ⟨b, cap, arr, ty, rfl, _⟩
            · simp only [SubSl] at hsub
              obtain ⟨_, rfl, rfl⟩ := hsub
              exact ⟨_, hrun _ _ _, .frz (.sc _)⟩
            · simp only [SubSl] at hsub
              subst hsub
              exact ⟨_, hrun _ _ _, .frz (.sc _)⟩
          · cases h
        · cases h
      · rename_i k off len z'
        split at h
        · rename_i cs hk
          cases h
          obtain ⟨e', hE, hr⟩ := hX.hec hk
          cases e' <;> simp only [EntRel] at hr
          rename_i b
          obtain ⟨cap, rfl, _⟩ := hv.bxs_inv.2.2 b hE
          exact ⟨_, hrun _ _ _, .frz (.sc _)⟩
        · cases h
      · cases h

theorem SlAt.take {fl : Bool} {B : Nat → Prop} {z : Nat} {ys : List (List AV)} {a : Option Addr} {len cap n : Nat} (h : SlAt X fl B z ys (.slice a len cap)) (hn : n ≤ ys.length) : SlAt X fl B z (ys.take n) (.slice a n cap) := by
  obtain ⟨a', cap', he, hc, hne⟩ := h
  cases he
  refine ⟨a, cap, by simp [hn], by simp; omega, fun h => ?_⟩
  obtain ⟨ad, rfl, hs, hB, hr, hcell⟩ := hne (by rintro rfl; simp at h)
  refine ⟨ad, rfl, hs, hB, fun y hy => hr y (List.mem_of_mem_take hy), fun i j y c hy hc => hcell i j y c ?_ hc⟩
  rw [List.getElem?_take] at hy
  split at hy
  · exact hy
  · cases hy

include hT in
theorem aCopy_run (hX : X.Ok) {b0 t : Nat} {a b r : AV} {H' : List Ent} (h : aCopy T b0 X.H t a b = some (r, H')) {u v : Value} (hu : VRel X L a u) (hv : VRel X L b v) {tys : Array TypeId} (h0 : tys[0]? = some t) (ty : TypeId) :
    ∃ q w', (Builtin.copy_ tys ty #[u, v]).run P X.w = .ok q w' ∧ Step X L r H' q w' := by
  unfold aCopy at h
  split at h
  · cases h
  · rename_i z eb he
    obtain ⟨e, i, zv, hun, hi, hsz, hby, hzv, hzs, hzo⟩ := hT.elem _ _ _ he
    subst hsz
    split at h
    · cases h
    · rename_i py ys hel
      have hat := elemsOf_at hX hel hv
      split at h
      · rename_i k off len vr
        split at h
        · rename_i vr' z' xs hk
          split at h
          · rename_i hc
            obtain ⟨rfl, rfl, hle, hz, _⟩ := hc
            cases h
            obtain ⟨e', hE, hr⟩ := hX.hec hk
            cases e' <;> simp only [EntRel] at hr
            rename_i hdr
            obtain ⟨_, hl, hr⟩ := hr
            have hsub := hu.os_inv.2.2.2 _ _ _ hk hE
            obtain ⟨a2, c2, rfl, hc2, hne2⟩ := hat
            have hat : SlAt X py (fun _ => True) i.size ys (.slice a2 ys.length c2) := ⟨a2, c2, rfl, hc2, hne2⟩
            have hnmin : min ys.length len ≤ ys.length := Nat.min_le_left _ _
            obtain ⟨news, hnews, hnr⟩ := (hat.take hnmin).read (P := P) hz
            have hyl : (ys.take (min ys.length len)).length = min ys.length len := by simp
            have hfirst : ∀ w' : World, w'.heap = X.w.heap → (Builtin.firstCells i.size (min ys.length len) (.slice a2 ys.length c2)).run P w' = .ok news.toArray w' := by
              intro w' hw
              have := hnr w' hw
              rw [hyl] at this
              cases a2 <;> exact this
            have htk : ys.take len = ys.take (min ys.length len) := by
              rcases Nat.le_total ys.length len with h | h
              · rw [List.take_of_length_le h, Nat.min_eq_left h, List.take_length]
              · rw [Nat.min_eq_right h]
            have hrun : ∀ a cap w1, u = .slice a len cap → (match a with | some a => storeCells a news | none => pure ()).run P X.w = .ok () w1 →
                (Builtin.copy_ tys ty #[u, .slice a2 ys.length c2]).run P X.w = .ok (.int .i64 (min ys.length len : Nat)) w1 := by
              intro a cap w1 hua hst
              subst hua
              have hf := hfirst X.w rfl
              cases a with
              | none =>
                simp only [Sem.run_pure] at hst
                cases hst
                simp [Builtin.copy_, h0, run_underlying hun, sizeOf, typeInfo, hi, Builtin.lenOf, hf, goInt]
              | some ad =>
                simp only at hst
                simp [Builtin.copy_, h0, run_underlying hun, sizeOf, typeInfo, hi, Builtin.lenOf, hf, hst, goInt]
            have hcont : xs.take off ++ overlay (ys.take len) (xs.drop off) = xs.take off ++ ys.take (min ys.length len) ++ xs.drop (off + (ys.take (min ys.length len)).length) := by
              simp only [overlay, htk, List.drop_drop, List.append_assoc]
            rw [hcont]
            have hturn : ∀ hdr xs', Turns (.own vr i.size xs) (.own hdr) (.own vr i.size xs') (.own hdr) := fun _ _ => ⟨Nat.le_refl _, rfl, fun _ => rfl⟩
            rcases hr with ⟨a, rfl, rfl⟩ | ⟨bl, cap, arr, ty', rfl, hm, h2, h3, h5, h7, h6⟩
            · simp only [SubSl] at hsub
              obtain ⟨rfl, rfl, hu1⟩ := hsub
              have hn0 : news = [] := List.eq_nil_of_length_eq_zero (by rw [hnews.len, hyl]; simp)
              subst hn0
              refine ⟨_, X.w, hrun a 0 X.w hu1 (by cases a <;> simp [storeCells]), ?_⟩
              have hX' : Cx.put X X.w k (.own (.slice a 0 0)) (.own vr i.size (List.take 0 [] ++ List.take (min ys.length 0) ys ++ List.drop (0 + (List.take (min ys.length 0) ys).length) [])) (.own (.slice a 0 0)) =
                  Cx.put X X.w k (.own (.slice a 0 0)) (.own vr i.size []) (.own (.slice a 0 0)) := by simp
              refine ⟨Cx.put X X.w k (.own (.slice a 0 0)) (.own vr i.size []) (.own (.slice a 0 0)), rfl, by simp [Cx.put],
                Cx.put_ok hX hk hE (.refl _) (fun _ _ _ => rfl) (fun _ hb => .inl hb) (fun b hb => by cases a <;> simp [EC.blk] at hb) (hturn _ _) (fun _ => ⟨hz, by simp, .inl ⟨a, rfl, rfl⟩⟩),
                Cx.put_trans hX hk hE (.refl _) (fun _ _ _ => rfl) (fun _ hb => .inl hb) (hturn _ _), ?_⟩
              exact .frz (.sc _)
            · simp only [SubSl] at hsub
              have hnl : news.length = min ys.length len * i.size := by rw [hnews.len, hyl]
              have hfit : off * i.size + news.length ≤ arr.size := by
                rw [hnl, h3, ← Nat.add_mul]
                exact Nat.mul_le_mul_right _ (by omega)
              have hst := run_storeCells_at P bl (off * i.size) ty' news 0 arr X.w h2 (by simpa using hfit) hnews.one
              simp only [Nat.add_zero] at hst
              refine ⟨_, _, hrun _ _ _ hsub hst, ?_⟩
              have hset := setRow_heap X.w bl arr (arr.toList.take (off * i.size) ++ news ++ arr.toList.drop (off * i.size + news.length)).toArray ty' (0, 0) h2
              have hbl := (Array.getElem?_eq_some_iff.1 h2).1
              have hsz := setRow_size X.w bl (arr.toList.take (off * i.size) ++ news ++ arr.toList.drop (off * i.size + news.length)).toArray
              have hlat := later_setRow X.w bl (arr.toList.take (off * i.size) ++ news ++ arr.toList.drop (off * i.size + news.length)).toArray
              have hk1 : ∀ b', b' < X.w.heap.size → (EC.own (.slice (some ⟨bl, 0, none⟩) xs.length (cap + 1))).blk ≠ some b' →
                  (X.w.setRow bl (arr.toList.take (off * i.size) ++ news ++ arr.toList.drop (off * i.size + news.length)).toArray).heap[b']? = X.w.heap[b']? :=
                fun b' _ hne => setRow_other X.w bl b' _ (fun he => hne (by simp [EC.blk, he]))
              generalize X.w.setRow bl (arr.toList.take (off * i.size) ++ news ++ arr.toList.drop (off * i.size + news.length)).toArray = w1 at *
              have hxl : (xs.take off ++ ys.take (min ys.length len) ++ xs.drop (off + (ys.take (min ys.length len)).length)).length = xs.length := by
                simp
                omega
              have hb2 : ∀ b', (EC.own (.slice (some ⟨bl, 0, none⟩) xs.length (cap + 1))).blk = some b' → b' < w1.heap.size := fun b' hb' => by
                simp only [EC.blk, Option.some.injEq] at hb'; rw [hsz]; omega
              refine ⟨Cx.put X w1 k (.own (.slice (some ⟨bl, 0, none⟩) xs.length (cap + 1))) (.own vr i.size (xs.take off ++ ys.take (min ys.length len) ++ xs.drop (off + (ys.take (min ys.length len)).length))) (.own (.slice (some ⟨bl, 0, none⟩) xs.length (cap + 1))), rfl, rfl,
                Cx.put_ok hX hk hE hlat hk1 (fun _ hb => .inl hb) hb2 (hturn _ _) (fun t => ⟨hz, fun y hy => ?_, .inr ⟨bl, cap, _, ty', by rw [hxl], .inr rfl, hset, ?_, by rw [hxl]; exact h5, fun j q hq => ?_, fun i' j y c hy hcc => ?_⟩⟩),
                Cx.put_trans hX hk hE hlat hk1 (fun _ hb => .inl hb) (hturn _ _), .frz (.sc _)⟩
              · rcases List.mem_append.1 hy with hy | hy
                · rcases List.mem_append.1 hy with hy | hy
                  · exact hl y (List.mem_of_mem_take hy)
                  · exact hnews.row y hy
                · exact hl y (List.mem_of_mem_drop hy)
              · simp
                omega
              · simp only [List.getElem?_toArray] at hq
                rw [splice_get (by simpa using hfit)] at hq
                split at hq
                · exact h7 _ _ (by simpa using hq)
                · split at hq
                  · exact hnews.one _ (List.mem_of_getElem? hq)
                  · exact h7 _ _ (by simpa using hq)
              · simp only [List.getElem?_toArray]
                rw [splice_get (by simpa using hfit)]
                rw [splice_get (by rw [hyl]; omega), hyl] at hy
                have hj := (List.getElem?_eq_some_iff.1 hcc).1
                by_cases hi1 : i' < off
                · rw [if_pos hi1] at hy
                  obtain ⟨q, h8, h9⟩ := h6 i' j y c hy hcc
                  rw [hl y (List.mem_of_getElem? hy)] at hj
                  have : (i' + 1) * i.size ≤ off * i.size := Nat.mul_le_mul_right _ hi1
                  rw [Nat.add_mul] at this
                  rw [if_pos (by omega)]
                  exact ⟨q, by simpa using h8, h9.trans t hX⟩
                · rw [if_neg hi1] at hy
                  have hoff : off * i.size ≤ i' * i.size := Nat.mul_le_mul_right _ (by omega)
                  by_cases hi2 : i' < off + min ys.length len
                  · rw [if_pos hi2] at hy
                    obtain ⟨q, h8, h9, _⟩ := hnews.rel (i' - off) j y c hy hcc
                    rw [hnews.row y (List.mem_of_getElem? hy)] at hj
                    have h10 : (i' - off) * i.size + j = i' * i.size + j - off * i.size := by rw [Nat.sub_mul]; omega
                    have h11 := (List.getElem?_eq_some_iff.1 h8).1
                    rw [if_neg (by omega), if_pos (by omega), ← h10]
                    exact ⟨q, h8, h9.trans t hX⟩
                  · rw [if_neg hi2] at hy
                    obtain ⟨q, h8, h9⟩ := h6 i' j y c hy hcc
                    have : (off + min ys.length len) * i.size ≤ i' * i.size := Nat.mul_le_mul_right _ (by omega)
                    rw [Nat.add_mul] at this
                    rw [if_neg (by omega), if_neg (by omega)]
                    exact ⟨q, by simpa using h8, h9.trans t hX⟩
          · cases h
        · cases h
      · cases h
end
end Go.Abs
