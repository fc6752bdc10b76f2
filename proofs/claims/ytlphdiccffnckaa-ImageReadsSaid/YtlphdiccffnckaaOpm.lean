/- Operations on memory: reading a slice whole; appending. -/
import Derived.Test.YtlphdiccffnckaaOpa
namespace Go.Abs

theorem later_setRow (w : World) (b : Nat) (x : Array Value) : Later w (w.setRow b x) := ⟨by simp [World.setRow], rfl, rfl⟩

/-- Where a slice's elements lie. -/
def SlAt (X : Cx) (fl : Bool) (B : Nat → Prop) (z : Nat) (ys : List (List AV)) (v : Value) : Prop :=
  ∃ a cap, v = .slice a ys.length cap ∧ ys.length ≤ cap ∧ (ys ≠ [] → ∃ ad : Addr, a = some ad ∧ ad.spot = none ∧ B ad.block ∧ (∀ y ∈ ys, y.length = z) ∧
    ∀ (i j : Nat) y c, ys[i]? = some y → y[j]? = some c → ∃ u, X.w.cell? ⟨ad.block, ad.off + (i * z + j), none⟩ = some u ∧ u.oneCell' = true ∧ VRel X [] c u ∧ (fl = true → FRel X.w X.M c u))

/-- The block in which a slice's elements lie: nobody writes it, or it is the entity's. -/
def OfSl (X : Cx) (a : AV) (b : Nat) : Prop :=
  b < X.w.heap.size ∧ (¬ X.M b ∨ ∃ k e, ((∃ off len vr, a = .os k off len vr) ∨ ∃ off len z, a = .bxs k off len z) ∧ X.E[k]? = some e ∧ e.blk = some b)

section
variable {X : Cx} {L : List Nat}

theorem chunks_length (z n : Nat) (cs : List AV) : (chunks z n cs).length = n := by
  induction n generalizing cs with
  | zero => rfl
  | succ n ih => simp [chunks, ih]

theorem chunks_get {z : Nat} : ∀ {n : Nat} {cs : List AV} {i : Nat} {y : List AV}, (chunks z n cs)[i]? = some y → y = (cs.drop (i * z)).take z ∧ i < n
  | 0, cs, i, y, h => by simp [chunks] at h
  | n + 1, cs, 0, y, h => by
    simp [chunks] at h
    exact ⟨by simp [h], by omega⟩
  | n + 1, cs, i + 1, y, h => by
    simp only [chunks, List.getElem?_cons_succ] at h
    obtain ⟨h1, h2⟩ := chunks_get h
    refine ⟨?_, by omega⟩
    rw [h1, List.drop_drop, Nat.add_mul, Nat.one_mul, Nat.add_comm z]

theorem pureLL_get {xs : List (List AV)} (h : AV.pureLL xs = true) : ∀ (i : Nat) x, xs[i]? = some x → AV.pureL x = true := by
  induction xs with
  | nil => intro i c hc; simp at hc
  | cons x cs ih =>
    simp only [AV.pureLL, Bool.and_eq_true] at h
    intro i c hc
    cases i with
    | zero => simp at hc; exact hc ▸ h.1
    | succ i => exact ih h.2 i c (by simpa using hc)

theorem snap_at (hX : X.Ok) {a : AV} {f : Bool} {z : Nat} {ys : List (List AV)} (h : snap X.H a = some (f, z, ys)) {v : Value} (hv : VRel X L a v) : SlAt X f (OfSl X a) z ys v := by
  cases a <;> simp only [snap] at h <;> try (cases h; done)
  · rename_i f' z' xs
    cases h
    obtain ⟨a, cap, rfl, hc, _, hne⟩ := hv.sl_inv
    refine ⟨a, cap, rfl, hc, fun h => ?_⟩
    obtain ⟨hz, ad, rfl, hs, hb, hM, hcell⟩ := hne h
    exact ⟨ad, rfl, hs, ⟨hb, .inl hM⟩, hz, fun i j y c hy hc => by
      obtain ⟨u, q1, q2, q3⟩ := hcell i j y c hy hc
      exact ⟨u, q1, q2, .frz q3, fun _ => q3⟩⟩
  · rename_i k off len z'
    split at h
    · rename_i cs hk
      split at h
      · rename_i hp
        obtain ⟨hp, hle⟩ := hp
        cases h
        obtain ⟨e', hE, hr⟩ := hX.hec hk
        cases e' <;> simp only [EntRel] at hr
        rename_i b
        obtain ⟨_, arr, ty, h1, h2, h3, h4⟩ := hr
        obtain ⟨_, _, h5⟩ := hv.bxs_inv
        obtain ⟨cap, rfl, hc⟩ := h5 b hE
        refine ⟨some ⟨b, off, none⟩, cap, by rw [chunks_length], by rw [chunks_length]; exact hc, fun _ => ⟨⟨b, off, none⟩, rfl, rfl, ⟨(Array.getElem?_eq_some_iff.1 h1).1, .inr ⟨k, _, .inr ⟨_, _, _, rfl⟩, hE, rfl⟩⟩, fun y hy => ?_, fun i j y c hy hc => ?_⟩⟩
        · obtain ⟨i, hi⟩ := List.mem_iff_getElem?.1 hy
          obtain ⟨rfl, hlt⟩ := chunks_get hi
          have : (i + 1) * z ≤ len * z := Nat.mul_le_mul_right _ hlt
          rw [Nat.add_mul] at this
          simp
          omega
        · obtain ⟨rfl, hi⟩ := chunks_get hy
          rw [List.getElem?_take] at hc
          split at hc
          · rw [List.getElem?_drop, List.getElem?_drop] at hc
            have hlt := (List.getElem?_eq_some_iff.1 hc).1
            have hcell : arr[off + (i * z + j)]? = some (arr[off + (i * z + j)]'(by omega)) := Array.getElem?_eq_getElem _
            exact ⟨_, (cell_of_blk h1).trans hcell, h3 _ _ hcell, h4 _ _ _ hc hcell, fun _ => (h4 _ _ _ hc hcell).pure (pureL_get hp _ _ hc)⟩
          · cases hc
      · cases h
    · cases h
  · rename_i k off len vr
    split at h
    · rename_i vr' z' xs hk
      split at h
      · rename_i hvr
        obtain ⟨hvr, hle⟩ := hvr
        cases h
        subst hvr
        obtain ⟨e', hE, hr⟩ := hX.hec hk
        cases e' <;> simp only [EntRel] at hr
        rename_i hdr
        obtain ⟨_, _, _, h4⟩ := hv.os_inv
        have h4 := h4 z xs hdr hk hE
        obtain ⟨hz, hl, hr⟩ := hr
        have hlen : ((xs.drop off).take len).length = len := by simp; omega
        rcases hr with ⟨a, rfl, rfl⟩ | ⟨b, cap, arr, ty, rfl, hm, h2, h3, h5, h7, h6⟩
        · simp only [SubSl] at h4
          obtain ⟨rfl, rfl, rfl⟩ := h4
          exact ⟨a, 0, by simp, by simp, fun h => absurd rfl h⟩
        · simp only [SubSl] at h4
          subst h4
          refine ⟨some ⟨b, off * z, none⟩, cap + 1 - off, by rw [hlen], by rw [hlen]; omega, fun _ => ⟨⟨b, off * z, none⟩, rfl, rfl, ⟨(Array.getElem?_eq_some_iff.1 h2).1, .inr ⟨k, _, .inl ⟨_, _, _, rfl⟩, hE, rfl⟩⟩, fun y hy => hl y (List.mem_of_mem_drop (List.mem_of_mem_take hy)), fun i j y c hy hc => ?_⟩⟩
          have hy0 := hy
          rw [List.getElem?_take] at hy
          split at hy
          · rw [List.getElem?_drop] at hy
            obtain ⟨u, h8, h9⟩ := h6 _ j y c hy hc
            refine ⟨u, (cell_of_blk h2).trans ?_, h7 _ _ h8, h9, fun hf => h9.pure (pureL_get (pureLL_get hf _ _ hy0) _ _ hc)⟩
            rw [show off * z + (i * z + j) = (off + i) * z + j by rw [Nat.add_mul]; omega]
            exact h8
          · cases hy
      · cases h
    · cases h
  · cases h
    obtain ⟨a, c, _, rfl⟩ := hv.nsl_inv
    exact ⟨a, c, rfl, Nat.zero_le _, fun h => absurd rfl h⟩

/-- The cells of a slice's elements, as they are read. -/
structure News (X : Cx) (fl : Bool) (z : Nat) (ys : List (List AV)) (news : List Value) : Prop where
  len : news.length = ys.length * z
  row : ∀ y ∈ ys, y.length = z
  one : ∀ v ∈ news, v.oneCell' = true
  rel : ∀ (i j : Nat) y c, ys[i]? = some y → y[j]? = some c → ∃ u, news[i * z + j]? = some u ∧ VRel X [] c u ∧ (fl = true → FRel X.w X.M c u)

theorem SlAt.read {P : Program} {fl : Bool} {B : Nat → Prop} {z : Nat} (hz : 0 < z) {ys : List (List AV)} {v : Value} (h : SlAt X fl B z ys v) :
    ∃ news, News X fl z ys news ∧ ∀ w' : World, w'.heap = X.w.heap → (Builtin.firstCells z ys.length v).run P w' = .ok news.toArray w' := by
  obtain ⟨a, cap, rfl, hc, hne⟩ := h
  by_cases hys : ys = []
  · subst hys
    refine ⟨[], ⟨by simp, by simp, by simp, by simp⟩, fun w' _ => ?_⟩
    cases a <;> simp [Builtin.firstCells, loadCells, loadCellsFrom]
  · obtain ⟨ad, rfl, hs, _, hrow, hcell⟩ := hne hys
    have hex : ∀ m, m < ys.length * z → ∃ u, X.w.cell? ⟨ad.block, ad.off + m, none⟩ = some u ∧ u.oneCell' = true ∧ ∀ (i j : Nat) y c, m = i * z + j → ys[i]? = some y → y[j]? = some c → VRel X [] c u ∧ (fl = true → FRel X.w X.M c u) := by
      intro m hm
      have hi : m / z < ys.length := (Nat.div_lt_iff_lt_mul hz).2 hm
      have hj : m % z < z := Nat.mod_lt _ hz
      obtain ⟨y0, hy⟩ : ∃ y0, ys[m / z]? = some y0 := ⟨_, List.getElem?_eq_getElem hi⟩
      have hyl : y0.length = z := hrow _ (List.mem_of_getElem? hy)
      obtain ⟨c0, hc⟩ : ∃ c0, y0[m % z]? = some c0 := ⟨_, List.getElem?_eq_getElem (by omega)⟩
      obtain ⟨u, h1, h2, h3⟩ := hcell _ _ _ _ hy hc
      rw [show m / z * z + m % z = m by rw [Nat.mul_comm]; exact Nat.div_add_mod m z] at h1
      refine ⟨u, h1, h2, fun i j y c he hy' hc' => ?_⟩
      have hjl : j < z := by
        have := (List.getElem?_eq_some_iff.1 hc').1
        rw [hrow y (List.mem_of_getElem? hy')] at this
        exact this
      have h4 : m / z = i := by rw [he]; rw [Nat.mul_comm, Nat.mul_add_div hz, Nat.div_eq_of_lt hjl, Nat.add_zero]
      have h5 : m % z = j := by rw [he, Nat.mul_comm, Nat.mul_add_mod, Nat.mod_eq_of_lt hjl]
      rw [h4, hy'] at hy
      cases hy
      rw [h5, hc'] at hc
      cases hc
      exact h3
    let f : Nat → Value := fun m => if hm : m < ys.length * z then (hex m hm).choose else undef
    have hf : ∀ m, m < ys.length * z → X.w.cell? ⟨ad.block, ad.off + m, none⟩ = some (f m) ∧ (f m).oneCell' = true ∧
        ∀ (i j : Nat) y c, m = i * z + j → ys[i]? = some y → y[j]? = some c → VRel X [] c (f m) ∧ (fl = true → FRel X.w X.M c (f m)) := by
      intro m hm
      simp only [f, hm, dif_pos]
      exact (hex m hm).choose_spec
    refine ⟨(List.range (ys.length * z)).map f, ⟨by simp, hrow, fun v hv => ?_, fun i j y c hy hc => ?_⟩, fun w' hw => ?_⟩
    · obtain ⟨m, hm, rfl⟩ := List.mem_map.1 hv
      exact (hf m (by simpa using hm)).2.1
    · have hi := (List.getElem?_eq_some_iff.1 hy).1
      have hj := (List.getElem?_eq_some_iff.1 hc).1
      rw [hrow y (List.mem_of_getElem? hy)] at hj
      have hlt : i * z + j < ys.length * z := by
        have : (i + 1) * z ≤ ys.length * z := Nat.mul_le_mul_right _ hi
        rw [Nat.add_mul] at this
        omega
      exact ⟨f (i * z + j), by simp [hlt], (hf _ hlt).2.2 i j y c rfl hy hc⟩
    · simp only [Builtin.firstCells]
      exact run_loadCells w' ad _ f fun m hm => by
        rw [add_none hs]
        have := (hf m hm).1
        simp only [World.cell?, hw] at this ⊢
        exact this

theorem SlAt.any {fl : Bool} {B : Nat → Prop} {z : Nat} {ys : List (List AV)} {v : Value} (h : SlAt X fl B z ys v) : SlAt X fl (fun _ => True) z ys v := by
  obtain ⟨a, cap, rfl, hc, hne⟩ := h
  refine ⟨a, cap, rfl, hc, fun h => ?_⟩
  obtain ⟨ad, h1, h2, _, h3⟩ := hne h
  exact ⟨ad, h1, h2, trivial, h3⟩

theorem elemsOf_at (hX : X.Ok) {a : AV} {z : Nat} {fl : Bool} {ys : List (List AV)} (h : elemsOf X.H z a = some (fl, ys)) {v : Value} (hv : VRel X L a v) : SlAt X fl (fun _ => True) z ys v := by
  unfold elemsOf at h
  split at h
  · cases h
    rw [hv.sc_inv]
    exact ⟨none, 0, rfl, Nat.le_refl _, fun h => absurd rfl h⟩
  · split at h
    · rename_i f z' xs hs
      split at h
      · rename_i hz
        cases h
        subst hz
        exact (snap_at hX hs hv).any
      · cases h
    · cases h
end

section append
variable {P : Program}

/-- The built-in append, where its second operand's elements can be read. -/
theorem run_append_any {t t2 ty e : TypeId} {i : TypeInfo} {zv : Value} (ht : P.underlying t = some (.slice e)) (hi : P.info? e = some i) (hz : i.zero = some zv)
    {e2 : TypeId} (ht2 : P.underlying t2 = some (.slice e2)) {tys : Array TypeId} (h0 : tys[0]? = some t) (h1 : tys[1]? = some t2)
    {a : Option Addr} {len cap m : Nat} {a2 : Option Addr} {c2 : Nat} {olds news : List Value} (w : World)
    (hnew : ∀ w' : World, w'.heap = w.heap → (Builtin.firstCells i.size m (.slice a2 m c2)).run P w' = .ok news.toArray w')
    (hold : ∀ w' : World, w'.heap = w.heap → (Builtin.firstCells i.size len (.slice a len cap)).run P w' = .ok olds.toArray w')
    (hb : (len + m) * i.bytes ≤ 140737488355328) (h63 : (len + m) ≤ 9223372036854775807) :
    (len + m ≤ cap ∧ ∀ w1, (match a with | some a => storeCells (a.add (len * i.size)) news | none => pure ()).run P w = .ok () w1 →
      (Builtin.append_ tys ty #[.slice a len cap, .slice a2 m c2]).run P w = .ok (.slice a (len + m) cap) w1) ∨
    (cap < len + m ∧ ∃ ncap, len + m ≤ ncap ∧
      (Builtin.append_ tys ty #[.slice a len cap, .slice a2 m c2]).run P w =
        .ok (.slice (some ⟨w.heap.size, 0, none⟩) (len + m) ncap) (w.drew.alloc (.cells (olds.toArray ++ news.toArray ++ Builtin.zeroCells zv.cells (ncap - (len + m))) e))) := by
  by_cases hc : len + m ≤ cap
  · refine .inl ⟨hc, fun w1 hst => ?_⟩
    have hn := hnew w rfl
    cases a with
    | none =>
      simp only [Sem.run_pure] at hst
      cases hst
      simp [Builtin.append_, h0, h1, run_underlying ht, run_underlying ht2, sizeOf, typeInfo, hi, Builtin.lenOf, hc, hn]
    | some ad =>
      simp only at hst
      simp [Builtin.append_, h0, h1, run_underlying ht, run_underlying ht2, sizeOf, typeInfo, hi, Builtin.lenOf, hc, hn, hst]
  · refine .inr ⟨by omega, grownCap w (len + m) cap e, grownCap_ge w _ _ _, ?_⟩
    have hn := hnew w.drew rfl
    have ho := hold w.drew rfl
    have hfit : ¬ (281474976710656 < Builtin.nextslicecap (len + m) cap * i.bytes) := by
      have := growslice_fits (show cap < len + m by omega) hb
      omega
    have h63' : ¬ ((9223372036854775807 : Int) < ((len + m : Nat) : Int) ∧ i.bytes = 0) := by omega
    have hmax : IntKind.max .i64 = 9223372036854775807 := by decide
    simp only [Int.natCast_add] at h63'
    simp [Builtin.append_, h0, h1, run_underlying ht, run_underlying ht2, sizeOf, typeInfo, hi, Builtin.lenOf, hc, zeroValue, hz, Question.forced, hfit, h63', hmax, hn, ho, grownCap, newRow]
    congr 2
    apply Array.ext'
    simp
end append
end Go.Abs
