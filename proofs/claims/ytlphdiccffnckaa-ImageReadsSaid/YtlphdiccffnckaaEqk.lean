/- Structs and arrays of numbers, compared. -/
import Derived.Test.YtlphdiccffnckaaPrg
import Derived.Laws.StructEq
import Derived.ChangeKeysEq
namespace Go.Abs

section
variable {P : Program}

theorem part_int {e : TypeId} {k : IntKind} (hu : P.underlying e = some (.int k)) {xs : List Value} {off : Nat} {v : Value} {rest : List Value} (hx : xs.drop off = v :: rest) (w : World) : (part e xs.toArray off).run P w = .ok v w := by
  refine run_part_plain w (by simp [Program.plainKey, hu]) ?_
  have : xs[off]? = some v := by
    have h := congrArg (·[0]?) hx
    simpa using h
  simpa using this

theorem shape_cons {n : Nat} {c : Value} {cs : List Value} (h : shapeOk (List.replicate n true) ((c :: cs).map .sc) = true) : ∃ m k a, n = m + 1 ∧ c = .int k a ∧ shapeOk (List.replicate m true) (cs.map .sc) = true := by
  cases n with
  | zero => simp [shapeOk] at h
  | succ n =>
    cases c <;> simp [List.replicate_succ, shapeOk] at h
    exact ⟨n, _, _, rfl, rfl, h⟩
theorem aggEq_cons {k : IntKind} {a : Int} {cs : List AV} {ds : List Value} {r : Bool} (h : aggEq (.sc (.int k a) :: cs) (ds.map .sc) = some r) : ∃ b ds' r', ds = .int k b :: ds' ∧ aggEq cs (ds'.map .sc) = some r' ∧ r = ((a == b) && r') := by
  cases ds with
  | nil => simp [aggEq] at h
  | cons d ds =>
    simp only [List.map_cons, aggEq] at h
    obtain ⟨e, h1, h2⟩ := Option.bind_eq_some_iff.1 h
    obtain ⟨r', h3, rfl⟩ := Option.map_eq_some_iff.1 h2
    cases d <;> simp [scEq] at h1
    rename_i k' b
    obtain ⟨rfl, rfl⟩ := h1
    exact ⟨b, ds, r', rfl, h3, by simp⟩

theorem items_run {e : TypeId} {k : IntKind} (hu : P.underlying e = some (.int k)) (d : Nat) (w : World) : ∀ (cs ds : List Value) (r : Bool) (n : Nat), shapeOk (List.replicate n true) (cs.map .sc) = true → aggEq (cs.map .sc) (ds.map .sc) = some r →
    ∀ (xs ys : List Value) (i : Nat), xs.drop i = cs → ys.drop i = ds → (Op.eqItems (d + 1) e 1 xs.toArray ys.toArray (List.range' i cs.length)).run P w = .ok r w
  | [], ds, r, n, _, h, xs, ys, i, _, _ => by
    cases ds with
    | nil => simp [aggEq] at h; subst h; simp [Op.eqItems]
    | cons => simp [aggEq] at h
  | c :: cs, ds, r, n, hs, h, xs, ys, i, hx, hy => by
    obtain ⟨m, k', a, rfl, rfl, hs'⟩ := shape_cons hs
    obtain ⟨b, ds', r', rfl, h', rfl⟩ := aggEq_cons h
    have hx' : xs.drop (i + 1) = cs := by rw [← List.drop_drop, hx]; rfl
    have hy' : ys.drop (i + 1) = ds' := by rw [← List.drop_drop, hy]; rfl
    have ih := items_run hu d w cs ds' r' m hs' h' xs ys (i + 1) hx' hy'
    simp only [List.length_cons, List.range'_succ, Op.eqItems, Sem.run_bind, Nat.mul_one, part_int hu hx, part_int hu hy, Result.andThen_ok, run_equalIn_int w d e k' k a b hu]
    cases hab : a == b
    · simp
    · simp [ih]

theorem fields_run (d : Nat) (w : World) : ∀ (fs : List Field) (cs ds : List Value) (r : Bool) (n : Nat), shapeOk (List.replicate n true) (cs.map .sc) = true → aggEq (cs.map .sc) (ds.map .sc) = some r →
    ∀ (xs ys : List Value) (i : Nat), xs.drop i = cs → ys.drop i = ds → fs.length = cs.length → (∀ (j : Nat) f, fs[j]? = some f → f.offset = i + j ∧ f.name ≠ "_" ∧ ∃ k, P.underlying f.type = some (.int k)) →
    (Op.eqFields (d + 1) xs.toArray ys.toArray fs).run P w = .ok r w
  | [], [], ds, r, n, _, h, xs, ys, i, _, _, _, _ => by
    cases ds with
    | nil => simp [aggEq] at h; subst h; simp [Op.eqFields]
    | cons => simp [aggEq] at h
  | [], _ :: _, _, _, _, _, _, _, _, _, _, _, hl, _ => by simp at hl
  | _ :: _, [], _, _, _, _, _, _, _, _, _, _, hl, _ => by simp at hl
  | f :: fs, c :: cs, ds, r, n, hs, h, xs, ys, i, hx, hy, hl, hf => by
    obtain ⟨m, k', a, rfl, rfl, hs'⟩ := shape_cons hs
    obtain ⟨b, ds', r', rfl, h', rfl⟩ := aggEq_cons h
    obtain ⟨ho, hn, k, hu⟩ := hf 0 f rfl
    have hx' : xs.drop (i + 1) = cs := by rw [← List.drop_drop, hx]; rfl
    have hy' : ys.drop (i + 1) = ds' := by rw [← List.drop_drop, hy]; rfl
    have ih := fields_run d w fs cs ds' r' m hs' h' xs ys (i + 1) hx' hy' (by simpa using hl) (fun j f hj => by
      obtain ⟨q1, q2⟩ := hf (j + 1) f (by simpa using hj)
      exact ⟨by omega, q2⟩)
    rw [Nat.add_zero] at ho
    simp only [Op.eqFields, if_pos hn, Sem.run_bind, ho, part_int hu hx, part_int hu hy, Result.andThen_ok, run_equalIn_int w d f.type k' k a b hu]
    cases hab : a == b
    · simp
    · simp [ih]

theorem eqok_array {t e n : Nat} {k : IntKind} {i : TypeInfo} (hu : P.underlying t = some (.array n e)) (hi : P.info? e = some i) (hs : P.cellsOf e = 1) (he : P.underlying e = some (.int k)) (hg : P.eqGuardType P.depth t = false) (cs ds : List Value) (r : Bool) (w : World)
    (h : shapeOk (List.replicate n true) (cs.map .sc) = true) (h' : aggEq (cs.map .sc) (ds.map .sc) = some r) : P.eqGuardType P.depth t = false ∧ (Op.equal t (.agg cs.toArray) (.agg ds.toArray)).run P w = .ok r w := by
  refine ⟨hg, ?_⟩
  have hlen : ∀ (cs : List Value) n, shapeOk (List.replicate n true) (cs.map .sc) = true → cs.length = n := by
    intro cs
    induction cs with
    | nil => intro n h; cases n with
      | zero => rfl
      | succ n => simp [List.replicate_succ, shapeOk] at h
    | cons c cs ih =>
      intro n h
      obtain ⟨m, _, _, rfl, _, h2⟩ := shape_cons h
      simp [ih m h2]
  show (Op.equalIn (9999 + 1) t (.agg cs.toArray) (.agg ds.toArray)).run P w = _
  rw [run_equalIn_array w 9999 _ _ hu hi, hs]
  have := items_run he 9998 w cs ds r n h h' cs ds 0 rfl rfl
  rwa [hlen cs n h, ← List.range_eq_range'] at this

theorem eqok_struct {t n : Nat} {fs : Array Field} (hu : P.underlying t = some (.struct fs)) (hp : P.stoodInHeld t = false) (hl : fs.toList.length = n) (hf : ∀ (j : Nat) f, fs.toList[j]? = some f → f.offset = j ∧ f.name ≠ "_" ∧ ∃ k, P.underlying f.type = some (.int k))
    (hg : P.eqGuardType P.depth t = false) (cs ds : List Value) (r : Bool) (w : World)
    (h : shapeOk (List.replicate n true) (cs.map .sc) = true) (h' : aggEq (cs.map .sc) (ds.map .sc) = some r) : P.eqGuardType P.depth t = false ∧ (Op.equal t (.agg cs.toArray) (.agg ds.toArray)).run P w = .ok r w := by
  refine ⟨hg, ?_⟩
  have hlen : ∀ (cs : List Value) n, shapeOk (List.replicate n true) (cs.map .sc) = true → cs.length = n := by
    intro cs
    induction cs with
    | nil => intro n h; cases n with
      | zero => rfl
      | succ n => simp [List.replicate_succ, shapeOk] at h
    | cons c cs ih =>
      intro n h
      obtain ⟨m, _, _, rfl, _, h2⟩ := shape_cons h
      simp [ih m h2]
  have hfo : P.fieldsOf t = fs := by simp [Program.fieldsOf, hu]
  show (Op.equalIn (9999 + 1) t (.agg cs.toArray) (.agg ds.toArray)).run P w = _
  rw [run_equalIn_struct w 9999 t _ _ (by rw [hfo]; exact hu) hp, hfo]
  exact fields_run 9998 w fs.toList cs ds r n h h' cs ds 0 rfl rfl (by rw [hl, hlen cs n h]) (fun j f hj => by
    obtain ⟨q1, q2⟩ := hf j f hj
    exact ⟨by omega, q2⟩)
def okFields (P : Program) : Nat → List Field → Bool
  | _, [] => true
  | i, f :: fs => Nat.beq f.offset i && !(f.name == "_") && (match P.underlying f.type with
    | some (.int _) => true
    | _ => false) && okFields P (i + 1) fs
theorem okFields_spec : ∀ (fs : List Field) (i : Nat), okFields P i fs = true → ∀ (j : Nat) f, fs[j]? = some f → f.offset = i + j ∧ f.name ≠ "_" ∧ ∃ k, P.underlying f.type = some (.int k)
  | [], _, _, _, _, h => by simp at h
  | f :: fs, i, h, j, g, hg => by
    simp only [okFields, Bool.and_eq_true] at h
    obtain ⟨⟨⟨h1, h2⟩, h3⟩, h4⟩ := h
    cases j with
    | zero =>
      simp at hg
      subst hg
      refine ⟨Nat.eq_of_beq_eq_true h1, by simpa using h2, ?_⟩
      split at h3
      · exact ⟨_, by assumption⟩
      · cases h3
    | succ j =>
      obtain ⟨q1, q2⟩ := okFields_spec fs (i + 1) h4 j g (by simpa using hg)
      exact ⟨by omega, q2⟩
theorem eqok_struct' {t n : Nat} {fs : Array Field} (hu : P.underlying t = some (.struct fs)) (hp : P.stoodInHeld t = false) (hl : Nat.beq fs.toList.length n = true) (hf : okFields P 0 fs.toList = true)
    (hg : P.eqGuardType P.depth t = false) (cs ds : List Value) (r : Bool) (w : World)
    (h : shapeOk (List.replicate n true) (cs.map .sc) = true) (h' : aggEq (cs.map .sc) (ds.map .sc) = some r) : P.eqGuardType P.depth t = false ∧ (Op.equal t (.agg cs.toArray) (.agg ds.toArray)).run P w = .ok r w :=
  eqok_struct hu hp (Nat.eq_of_beq_eq_true hl) (fun j f hj => by
    obtain ⟨q1, q2⟩ := okFields_spec _ 0 hf j f hj
    exact ⟨by omega, q2⟩) hg cs ds r w h h'
end
end Go.Abs
