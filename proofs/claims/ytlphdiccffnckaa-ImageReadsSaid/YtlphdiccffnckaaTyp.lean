/- What the table of types must say of the program; what values look like; loads. -/
import Derived.Test.YtlphdiccffnckaaCtx
import Derived.Laws.Cells
import Derived.Laws.AppendOwn
import Derived.Laws.World
namespace Go.Abs

def aggD : TypeDesc → Bool
  | .struct _ | .array _ _ => true
  | _ => false

/-- The table tells the program's types. -/
structure TOk (P : Program) (T : TT) : Prop where
  size : ∀ t n g, T.size t = some (n, g) → ∃ i d, P.info? t = some i ∧ i.size = n ∧ P.underlying t = some d ∧ aggD d = g
  zero : ∀ t zs, T.zero t = some zs → ∃ i v, P.info? t = some i ∧ i.zero = some v ∧ v.cells.toList = zs ∧ ∀ z ∈ zs, z.oneCell' = true
  elem : ∀ t z eb, T.elem t = some (z, eb) → ∃ e i v, P.underlying t = some (.slice e) ∧ P.info? e = some i ∧ i.size = z ∧ i.bytes = eb ∧ i.zero = some v ∧ v.cells.size = z ∧ ∀ x ∈ v.cells.toList, x.oneCell' = true
  ety : ∀ t e, T.ety t = some e → P.underlying t = some (.slice e)
  arr : ∀ t n z g, T.arr t = some (n, z, g) → ∃ e i d, P.underlying t = some (.array n e) ∧ P.info? e = some i ∧ i.size = z ∧ P.underlying e = some d ∧ aggD d = g
  fld : ∀ t l, T.flds t = some l → ∃ fs, P.underlying t = some (.struct fs) ∧ fs.size = l.length ∧
    ∀ (f : Nat) off n g, l[f]? = some (off, n, g) → ∃ fl i d, fs[f]? = some fl ∧ fl.offset = off ∧ P.info? fl.type = some i ∧ i.size = n ∧ 0 < n ∧ P.underlying fl.type = some d ∧ aggD d = g
  eqc : ∀ t (cs ds : List Value) (e : Bool) (w : World), eqShape (T.eqc t) (cs.map .sc) = true → aggEq (cs.map .sc) (ds.map .sc) = some e →
    P.eqGuardType P.depth t = false ∧ (Op.equal t (.agg cs.toArray) (.agg ds.toArray)).run P w = .ok e w
  int : ∀ t k, T.int t = some k → P.underlying t = some (.int k)
  bool : ∀ t, T.bool t = true → P.underlying t = some .bool
  ifc : ∀ t, T.ifc t = true → ∃ ms, P.underlying t = some (.interface ms)

section inv
variable {X : Cx} {L : List Nat}

theorem VRel.sc_inv {u v : Value} (h : VRel X L (.sc u) v) : v = u := by
  cases h with
  | frz h => cases h; rfl

theorem VRel.agg_inv {cs : List AV} {v : Value} (h : VRel X L (.agg cs) v) : ∃ vs : Array Value, v = .agg vs ∧ vs.size = cs.length ∧ (∀ (i : Nat) v, vs[i]? = some v → v.oneCell' = true) ∧
    ∀ (i : Nat) c v, cs[i]? = some c → vs[i]? = some v → VRel X L c v := by
  cases h with
  | frz h => cases h with
    | agg hl h1 h => exact ⟨_, rfl, hl, h1, fun i c v hc hv => .frz (h i c v hc hv)⟩
  | agg hl h1 h => exact ⟨_, rfl, hl, h1, h⟩

theorem VRel.tup_inv {cs : List AV} {v : Value} (h : VRel X L (.tup cs) v) : ∃ vs : Array Value, v = .tuple vs ∧ vs.size = cs.length ∧
    ∀ (i : Nat) c v, cs[i]? = some c → vs[i]? = some v → VRel X L c v := by
  cases h with
  | frz h => cases h with
    | tup hl h => exact ⟨_, rfl, hl, fun i c v hc hv => .frz (h i c v hc hv)⟩
  | tup hl h => exact ⟨_, rfl, hl, h⟩

theorem VRel.fn_inv {f : Nat} {cs : List AV} {v : Value} (h : VRel X L (.fn f cs) v) : ∃ vs : Array Value, v = .func (.func f) #[] vs ∧ vs.size = cs.length ∧
    ∀ (i : Nat) c v, cs[i]? = some c → vs[i]? = some v → VRel X L c v := by
  cases h with
  | frz h => cases h with
    | fn hl h => exact ⟨_, rfl, hl, fun i c v hc hv => .frz (h i c v hc hv)⟩
  | fn hl h => exact ⟨_, rfl, hl, h⟩

theorem VRel.ifc_inv {t : Nat} {a : AV} {v : Value} (h : VRel X L (.ifc t a) v) : ∃ u, v = .iface t u ∧ VRel X L a u := by
  cases h with
  | frz h => cases h with
    | ifc h => exact ⟨_, rfl, .frz h⟩
  | ifc h => exact ⟨_, rfl, h⟩

theorem VRel.yl_inv {j : Nat} {v : Value} (h : VRel X L (.yl j) v) : ∃ l, L[j]? = some l ∧ v = .func (.yield l) #[] #[] := by
  cases h with
  | frz h => cases h
  | yl h => exact ⟨_, h, rfl⟩

theorem VRel.fp_inv {cs : List AV} {v : Value} (h : VRel X L (.fp cs) v) : ∃ a, v = .pointer (some a) ∧ a.spot = none ∧ a.block < X.w.heap.size ∧ ¬ X.M a.block ∧
    ∀ (j : Nat) c, cs[j]? = some c → ∃ u, X.w.cell? ⟨a.block, a.off + j, none⟩ = some u ∧ u.oneCell' = true ∧ FRel X.w X.M c u := by
  cases h with
  | frz h => cases h with
    | fp g hs hb hM hg h1 h => exact ⟨_, rfl, hs, hb, hM, fun j c hc => ⟨_, hg j c hc, h1 j c hc, h j c hc⟩⟩

theorem VRel.bp_inv {k off : Nat} {v : Value} (h : VRel X L (.bp k off) v) : k < X.E.length ∧ v.oneCell' = true ∧ ∀ b, X.E[k]? = some (.box b) → v = .pointer (some ⟨b, off, none⟩) := by
  cases h with
  | frz h => cases h
  | bp h1 hk h => exact ⟨hk, h1, h⟩

theorem VRel.bxs_inv {k off len z : Nat} {v : Value} (h : VRel X L (.bxs k off len z) v) : k < X.E.length ∧ v.oneCell' = true ∧ ∀ b, X.E[k]? = some (.box b) → ∃ cap, v = .slice (some ⟨b, off, none⟩) len cap ∧ len ≤ cap := by
  cases h with
  | frz h => cases h
  | bxs h1 hk h => exact ⟨hk, h1, h⟩

theorem VRel.os_inv {k off len vr : Nat} {v : Value} (h : VRel X L (.os k off len vr) v) : k < X.E.length ∧ okVer X.H k vr ∧ v.oneCell' = true ∧
    ∀ z xs hdr, X.H[k]? = some (.own vr z xs) → X.E[k]? = some (.own hdr) → SubSl hdr off len z v := by
  cases h with
  | frz h => cases h
  | os h1 hk hv h => exact ⟨hk, hv, h1, h⟩

theorem VRel.op_inv {k i off vr : Nat} {v : Value} (h : VRel X L (.op k i off vr) v) : k < X.E.length ∧ okVer X.H k vr ∧ v.oneCell' = true ∧
    ∀ z xs hdr, X.H[k]? = some (.own vr z xs) → X.E[k]? = some (.own hdr) → ∃ a n cap, hdr = .slice (some a) n cap ∧ v = .pointer (some ⟨a.block, i * z + off, none⟩) := by
  cases h with
  | frz h => cases h
  | op h1 hk hv h => exact ⟨hk, hv, h1, h⟩

/-- A slice that nobody writes, as the machine has it. -/
theorem VRel.sl_inv {f : Bool} {z : Nat} {xs : List (List AV)} {v : Value} (h : VRel X L (.sl f z xs) v) : ∃ a cap, v = .slice a xs.length cap ∧ xs.length ≤ cap ∧ (f = true → cap = xs.length) ∧
    (xs ≠ [] → (∀ x ∈ xs, x.length = z) ∧ ∃ ad : Addr, a = some ad ∧ ad.spot = none ∧ ad.block < X.w.heap.size ∧ ¬ X.M ad.block ∧
      ∀ (i j : Nat) x c, xs[i]? = some x → x[j]? = some c → ∃ u, X.w.cell? ⟨ad.block, ad.off + (i * z + j), none⟩ = some u ∧ u.oneCell' = true ∧ FRel X.w X.M c u) := by
  cases h with
  | frz h => cases h with
    | slE hf => exact ⟨_, _, rfl, Nat.zero_le _, fun h => by simpa using hf h, fun h => absurd rfl h⟩
    | sl g hn hc hf hs hb hM hz hg h1 h =>
      subst hn
      exact ⟨_, _, rfl, hc, hf, fun _ => ⟨hz, _, rfl, hs, hb, hM, fun i j x c hx hc => ⟨_, hg i j x c hx hc, h1 i j x c hx hc, h i j x c hx hc⟩⟩⟩

theorem VRel.nsl_inv {n : Bool} {z : Nat} {u : Value} (h : VRel X L (.nsl n z) u) : ∃ a c, n = Option.isNone a ∧ u = .slice a 0 c := by
  cases h with
  | frz h => cases h with
    | nsl hn => exact ⟨_, _, hn, rfl⟩

/-- The cells of a storable value. -/
theorem VRel.cells {a : AV} {v : Value} (h : VRel X L a v) (hs : AV.storable a = true) : v.cells.size = a.cells.length ∧ (∀ (i : Nat) u, v.cells[i]? = some u → u.oneCell' = true) ∧
    ∀ (i : Nat) c u, a.cells[i]? = some c → v.cells[i]? = some u → VRel X L c u := by
  have one : v.oneCell' = true → (∀ cs, a ≠ .agg cs) → v.cells.size = a.cells.length ∧ (∀ (i : Nat) u, v.cells[i]? = some u → u.oneCell' = true) ∧
      ∀ (i : Nat) c u, a.cells[i]? = some c → v.cells[i]? = some u → VRel X L c u := by
    intro h1 ha
    have hv : v.cells = #[v] := by cases v <;> first | rfl | simp [Value.oneCell'] at h1
    have hc : a.cells = [a] := by cases a <;> first | rfl | exact absurd rfl (ha _)
    rw [hv, hc]
    refine ⟨rfl, fun i u hu => ?_, fun i c u hc hu => ?_⟩
    · cases i with
      | zero => simp at hu; exact hu ▸ h1
      | succ i => simp at hu
    · cases i with
      | zero => simp at hu hc; exact hc ▸ hu ▸ h
      | succ i => simp at hu
  cases a with
  | und => simp [AV.storable] at hs
  | tup vs => simp [AV.storable] at hs
  | sc u => rw [h.sc_inv] at one ⊢; exact one hs (by simp)
  | agg cs =>
    obtain ⟨vs, rfl, hl, h1, hp⟩ := h.agg_inv
    exact ⟨hl, h1, hp⟩
  | sl f z xs =>
    obtain ⟨a, cap, rfl, _⟩ := h.sl_inv
    exact one rfl (by simp)
  | fp cs =>
    obtain ⟨a, rfl, _⟩ := h.fp_inv
    exact one rfl (by simp)
  | fn f cs =>
    obtain ⟨vs, rfl, _⟩ := h.fn_inv
    exact one rfl (by simp)
  | yl j =>
    obtain ⟨l, _, rfl⟩ := h.yl_inv
    exact one rfl (by simp)
  | bp k off => exact one h.bp_inv.2.1 (by simp)
  | bxs k off len z => exact one h.bxs_inv.2.1 (by simp)
  | os k off len vr => exact one h.os_inv.2.2.1 (by simp)
  | op k i off vr => exact one h.op_inv.2.2.1 (by simp)
  | ifc t u =>
    obtain ⟨u', rfl, _⟩ := h.ifc_inv
    exact one rfl (by simp)
  | nsl n z =>
    obtain ⟨a, c, _, rfl⟩ := h.nsl_inv
    exact one rfl (by simp)
end inv

section run
variable {P : Program} {T : TT} (hT : TOk P T) {w : World}
include hT

theorem TOk.isAgg {t n : Nat} {g : Bool} (h : T.size t = some (n, g)) : (isAgg t).run P w = .ok g w := by
  obtain ⟨i, d, h1, h2, h3, h4⟩ := hT.size t n g h
  simp only [Go.isAgg, Sem.run_bind, run_underlying h3, Result.andThen_ok]
  cases d <;> simp [aggD] at h4 <;> subst h4 <;> rfl

theorem TOk.sizeOf {t n : Nat} {g : Bool} (h : T.size t = some (n, g)) : (sizeOf t).run P w = .ok n w := by
  obtain ⟨i, d, h1, h2, h3, h4⟩ := hT.size t n g h
  simp [Go.sizeOf, typeInfo, h1, h2]
end run

theorem add_at (b o j : Nat) : (⟨b, o, none⟩ : Addr).add j = ⟨b, o + j, none⟩ := by unfold Addr.add; split <;> simp_all
theorem add_none {a : Addr} (hs : a.spot = none) (j : Nat) : a.add j = ⟨a.block, a.off + j, none⟩ := by
  obtain ⟨b, o, s⟩ := a
  simp only at hs
  subst hs
  exact add_at b o j

section load
variable {P : Program} {T : TT} (hT : TOk P T) {X : Cx} {L : List Nat}
include hT

/-- Loading cells that are there. -/
theorem run_load_cells {t n : Nat} {g : Bool} (h : T.size t = some (n, g)) {cs : List AV} {r : AV} (hr : valOf n g cs = some r) {b o : Nat}
    (hc : ∀ (j : Nat) c, cs[j]? = some c → ∃ u, X.w.cell? ⟨b, o + j, none⟩ = some u ∧ u.oneCell' = true ∧ VRel X L c u) :
    ∃ v, (loadVar t ⟨b, o, none⟩).run P X.w = .ok v X.w ∧ VRel X L r v := by
  unfold loadVar
  simp only [Sem.run_bind, hT.isAgg h, Result.andThen_ok]
  cases g with
  | false =>
    simp only [valOf, Bool.false_eq_true, if_false] at hr
    cases cs with
    | nil => simp at hr
    | cons c cs =>
      simp only [List.head?_cons, Option.some.injEq] at hr
      subst hr
      obtain ⟨u, h1, _, h2⟩ := hc 0 c rfl
      refine ⟨u, ?_, h2⟩
      simp only [Nat.add_zero] at h1
      simp [h1]
  | true =>
    simp only [valOf, if_true] at hr
    split at hr
    · rename_i hn
      simp only [Option.some.injEq] at hr
      subst hr
      have hex : ∀ j, j < n → ∃ u, X.w.cell? ⟨b, o + j, none⟩ = some u ∧ u.oneCell' = true ∧ ∀ c, cs[j]? = some c → VRel X L c u := by
        intro j hj
        obtain ⟨u, h1, h2, h3⟩ := hc j cs[j] (List.getElem?_eq_getElem (by omega))
        exact ⟨u, h1, h2, fun c hcc => by rw [List.getElem?_eq_getElem (by omega)] at hcc; cases hcc; exact h3⟩
      let f : Nat → Value := fun j => if hj : j < n then (hex j hj).choose else undef
      have hf : ∀ j, j < n → X.w.cell? ⟨b, o + j, none⟩ = some (f j) ∧ (f j).oneCell' = true ∧ ∀ c, cs[j]? = some c → VRel X L c (f j) := by
        intro j hj
        simp only [f, hj, dif_pos]
        exact (hex j hj).choose_spec
      refine ⟨.agg ((List.range n).map f).toArray, ?_, .agg (by simp; omega) (fun i v hv => ?_) (fun i c v hcc hv => ?_)⟩
      · simp only [if_true, Sem.run_bind, hT.sizeOf h, Result.andThen_ok, run_loadCells X.w ⟨b, o, none⟩ n f (fun j hj => by rw [add_at]; exact (hf j hj).1), Sem.run_pure]
      · simp only [List.getElem?_toArray, List.getElem?_map] at hv
        obtain ⟨j, hj, rfl⟩ := Option.map_eq_some_iff.1 hv
        obtain ⟨hi, rfl⟩ := List.getElem?_eq_some_iff.1 hj
        simp at hi ⊢
        exact (hf i hi).2.1
      · simp only [List.getElem?_toArray, List.getElem?_map] at hv
        obtain ⟨j, hj, rfl⟩ := Option.map_eq_some_iff.1 hv
        obtain ⟨hi, rfl⟩ := List.getElem?_eq_some_iff.1 hj
        simp at hi ⊢
        rw [List.getElem?_take, if_pos hi] at hcc
        exact (hf i hi).2.2 c hcc
    · cases hr

omit hT in
theorem cell_of_blk {w : World} {b o : Nat} {arr : Array Value} {ty : TypeId} {fr : Nat × Nat} (h : w.heap[b]? = some (.cells arr ty fr)) : w.cell? ⟨b, o, none⟩ = arr[o]? := by
  simp [World.cell?, h]

theorem aLoad_run (hX : X.Ok) {t : Nat} {a r : AV} (h : aLoad T X.H t a = some r) {v : Value} (hv : VRel X L a v) :
    ∃ u, (Instr.loadAt t v).run P X.w = .ok u X.w ∧ VRel X L r u := by
  unfold aLoad at h
  cases hs : T.size t with
  | none => simp [hs] at h
  | some ng =>
    obtain ⟨n, g⟩ := ng
    simp only [hs] at h
    cases a with
    | fp cs =>
      obtain ⟨a, rfl, ha, hb, hM, hc⟩ := hv.fp_inv
      obtain ⟨b, o, s⟩ := a
      simp only at ha
      subst ha
      obtain ⟨u, h1, h2⟩ := run_load_cells hT (X := X) (L := L) hs h (b := b) (o := o) (fun j c hj => by
        obtain ⟨u, h1, h2, h3⟩ := hc j c hj
        exact ⟨u, h1, h2, .frz h3⟩)
      exact ⟨u, by simpa [Instr.loadAt, Instr.sureAddr] using h1, h2⟩
    | bp k off =>
      cases hk : X.H[k]? with
      | none => simp [hk] at h
      | some e =>
        cases e <;> simp only [hk] at h <;> try (cases h; done)
        rename_i cs
        obtain ⟨e', hE, hr⟩ := hX.hec hk
        cases e' <;> simp only [EntRel] at hr
        rename_i b
        obtain ⟨_, arr, ty, h1, h2, h3, h4⟩ := hr
        have hv := hv.bp_inv.2.2 b hE
        subst hv
        obtain ⟨u, h5, h6⟩ := run_load_cells hT (X := X) (L := L) hs h (b := b) (o := off) (fun j c hj => by
          rw [List.getElem?_drop] at hj
          have hlt := (List.getElem?_eq_some_iff.1 hj).1
          have hcell : arr[off + j]? = some (arr[off + j]'(by omega)) := Array.getElem?_eq_getElem _
          exact ⟨_, (cell_of_blk h1).trans hcell, h3 _ _ hcell, (h4 _ _ _ hj hcell).wider (by simp)⟩)
        exact ⟨u, by simpa [Instr.loadAt, Instr.sureAddr] using h5, h6⟩
    | op k i off vr =>
      cases hk : X.H[k]? with
      | none => simp [hk] at h
      | some e =>
        cases e <;> simp only [hk] at h <;> try (cases h; done)
        rename_i vr' z xs
        split at h
        · rename_i hvr
          subst hvr
          cases hx : xs[i]? with
          | none => simp [hx] at h
          | some x =>
            simp only [hx] at h
            obtain ⟨e', hE, hr⟩ := hX.hec hk
            cases e' <;> simp only [EntRel] at hr
            rename_i hdr
            obtain ⟨a, nn, cap', hhdr, hv⟩ := hv.op_inv.2.2.2 z xs hdr hk hE
            subst hv
            obtain ⟨hz, hlen, hr⟩ := hr
            rcases hr with ⟨_, _, rfl⟩ | ⟨b, cap, arr, ty, h1, hm, h2, h3, h4, h7, h5⟩
            · simp at hx
            · rw [h1] at hhdr
              cases hhdr
              obtain ⟨u, h8, h9⟩ := run_load_cells hT (X := X) (L := L) hs h (b := b) (o := i * z + off) (fun j c hj => by
                rw [List.getElem?_drop] at hj
                obtain ⟨u, h8, h9⟩ := h5 i (off + j) x c hx hj
                exact ⟨u, (cell_of_blk h2).trans (by rw [Nat.add_assoc]; exact h8), h7 _ _ (by rw [← Nat.add_assoc] at h8; rw [← Nat.add_assoc] at *; exact h8), h9.wider (by simp)⟩)
              exact ⟨u, by simpa [Instr.loadAt, Instr.sureAddr] using h8, h9⟩
        · cases h
    | _ => cases h
end load
end Go.Abs
