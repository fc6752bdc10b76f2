/- Reading arguments. -/
import Derived.Test.YtlphdiccffnckaaSym
import GoSem.ClaimChange
namespace Go.Abs

/-- What is read at this type is related to what stands for one of these values. -/
def Rd {H : Type} (e0 : TypeId × Value → H) (P : Program) (W : World) (t : Nat) {A : Type} (en : A → List AV) (good : A → Prop) : Prop :=
  ∀ fuel cs d ps, DataW.trod e0 P W 0 (fun _ => true) true fuel t cs = some (d, ps) →
    ∃ a, good a ∧ (en a).length = cs.length ∧ ∀ (j : Nat) c v, (en a)[j]? = some c → cs[j]? = some v → FRel W (fun _ => False) c v ∧ v.oneCell' = true

section
variable {H : Type} {e0 : TypeId × Value → H} {P : Program} {W : World} {t : Nat}

theorem Rd.one {A : Type} {en : A → AV} {good : A → Prop} (h : ∀ fuel cs d ps, DataW.trod e0 P W 0 (fun _ => true) true fuel t cs = some (d, ps) → ∃ a v, good a ∧ cs = [v] ∧ FRel W (fun _ => False) (en a) v ∧ v.oneCell' = true) :
    Rd e0 P W t (fun a => [en a]) good := by
  intro fuel cs d ps hr
  obtain ⟨a, v, h1, rfl, h2, h3⟩ := h fuel cs d ps hr
  refine ⟨a, h1, rfl, fun j c u hc hu => ?_⟩
  cases j with
  | zero => simp at hc hu; subst hc; subst hu; exact ⟨h2, h3⟩
  | succ j => simp at hc

theorem Rd.int {k : IntKind} (hu : P.underlying t = some (.int k)) : Rd e0 P W t (fun n : Int => [.sc (.int k n)]) (fun n => k.min ≤ n ∧ n ≤ k.max) := by
  refine Rd.one (en := fun n : Int => .sc (.int k n)) fun fuel cs d ps h => ?_
  cases fuel with
  | zero => simp [DataW.trod] at h
  | succ fuel =>
    match cs with
    | [] => simp [DataW.trod, hu] at h
    | _ :: _ :: _ => simp [DataW.trod, hu] at h
    | [v] =>
      cases v <;> simp [DataW.trod, hu] at h
      rename_i k' n
      obtain ⟨⟨rfl, hw⟩, _⟩ := h
      simp [Lit.wf] at hw
      exact ⟨n, _, hw, rfl, .sc _, rfl⟩

theorem Rd.bool (hu : P.underlying t = some .bool) : Rd e0 P W t (fun b : Bool => [.sc (.bool b)]) (fun _ => True) := by
  refine Rd.one (en := fun b : Bool => .sc (.bool b)) fun fuel cs d ps h => ?_
  cases fuel with
  | zero => simp [DataW.trod] at h
  | succ fuel =>
    match cs with
    | [] => simp [DataW.trod, hu] at h
    | _ :: _ :: _ => simp [DataW.trod, hu] at h
    | [v] =>
      cases v <;> simp [DataW.trod, hu] at h
      rename_i b
      exact ⟨b, _, trivial, rfl, .sc _, rfl⟩

theorem mapM_opt {α β : Type} {f : α → Option β} : ∀ {l : List α} {r : List β}, l.mapM f = some r → r.length = l.length ∧ ∀ (i : Nat) x, l[i]? = some x → ∃ y, r[i]? = some y ∧ f x = some y
  | [], r, h => by simp at h; subst h; simp
  | x :: l, r, h => by
    simp only [List.mapM_cons, Option.bind_eq_bind, Option.bind_eq_some_iff] at h
    obtain ⟨y, h1, r', h2, h3⟩ := h
    simp only [Option.pure_def, Option.some.injEq] at h3
    subst h3
    obtain ⟨h4, h5⟩ := mapM_opt h2
    refine ⟨by simp [h4], fun i z hz => ?_⟩
    cases i with
    | zero => simp at hz; subst hz; exact ⟨y, rfl, h1⟩
    | succ i => simpa using h5 i z (by simpa using hz)

theorem listOf {A : Type} {Q : Nat → A → Prop} : ∀ (n : Nat), (∀ i, i < n → ∃ x, Q i x) → ∃ l : List A, l.length = n ∧ ∀ (i : Nat) x, l[i]? = some x → Q i x
  | 0, _ => ⟨[], rfl, fun i x h => by simp at h⟩
  | n + 1, h => by
    obtain ⟨l, h1, h2⟩ := listOf n fun i hi => h i (by omega)
    obtain ⟨x, hx⟩ := h n (by omega)
    refine ⟨l ++ [x], by simp [h1], fun i y hy => ?_⟩
    rcases getElem?_push hy with hy | ⟨hi, rfl⟩
    · exact h2 i y hy
    · rw [hi, h1]; exact hx

theorem Rd.slice {e z : Nat} (hu : P.underlying t = some (.slice e)) (hz : P.cellsOf e = z) (hpos : 0 < z) {A : Type} {en : A → List AV} {good : A → Prop} (he : Rd e0 P W e en good) (hl : ∀ a, good a → (en a).length = z) :
    Rd e0 P W t (fun l : List A => [.sl false z (l.map en)]) (fun l => l.length ≤ maxLen ∧ ∀ a ∈ l, good a) := by
  refine Rd.one (en := fun l : List A => .sl false z (l.map en)) fun fuel cs d ps h => ?_
  cases fuel with
  | zero => simp [DataW.trod] at h
  | succ fuel =>
    match cs with
    | [] => simp [DataW.trod, hu] at h
    | _ :: _ :: _ => simp [DataW.trod, hu] at h
    | [v] =>
      cases v with
      | slice a len cap =>
        cases a with
        | none =>
          cases len with
          | zero =>
            cases cap with
            | zero => exact ⟨[], _, ⟨by simp, by simp⟩, rfl, .slE (by simp), rfl⟩
            | succ cap => simp [DataW.trod, hu] at h
          | succ len => simp [DataW.trod, hu] at h
        | some ad =>
          simp only [DataW.trod, hu, hz] at h
          split at h
          · rename_i hc
            obtain ⟨elems, h1, h2⟩ := Option.bind_eq_some_iff.1 h
            obtain ⟨h3, h4⟩ := mapM_opt h1
            have hel : ∀ i, i < len → ∃ x, good x ∧ ∀ j, j < z → ∃ u, W.cell? ((ad.add (i * z)).add j) = some u ∧ u.oneCell' = true ∧ ∀ c, (en x)[j]? = some c → FRel W (fun _ => False) c u := by
              intro i hi
              obtain ⟨y, _, hy⟩ := h4 i i (by simp [hi])
              obtain ⟨row, hrow, hy⟩ := Option.bind_eq_some_iff.1 hy
              obtain ⟨x, hg, hlen, hcell⟩ := he fuel row y.1 y.2 hy
              simp only [World.cells?, Nat.zero_le, if_true] at hrow
              obtain ⟨r1, r2⟩ := mapM_opt hrow
              refine ⟨x, hg, fun j hj => ?_⟩
              obtain ⟨u, hu1, hu2⟩ := r2 j j (by simp [hj])
              have hlt : j < (en x).length := by rw [hl x hg]; exact hj
              have := hcell j (en x)[j] u (List.getElem?_eq_getElem hlt) hu1
              exact ⟨u, hu2, this.2, fun c hc => by rw [List.getElem?_eq_getElem hlt] at hc; cases hc; exact this.1⟩
            obtain ⟨l, hll, hlq⟩ := listOf len hel
            have hgood : ∀ a ∈ l, good a := fun a ha => by
              obtain ⟨i, hi⟩ := List.mem_iff_getElem?.1 ha
              exact (hlq i a hi).1
            refine ⟨l, _, ⟨by omega, hgood⟩, rfl, ?_, rfl⟩
            by_cases h0 : len = 0
            · have : l = [] := List.eq_nil_of_length_eq_zero (by omega)
              subst this
              subst h0
              exact .slE (by simp)
            · have hx0 : l[0]? = some (l[0]'(by omega)) := List.getElem?_eq_getElem _
              obtain ⟨u, hu0, _⟩ := (hlq 0 _ hx0).2 0 hpos
              have hsp : ad.spot = none := by simpa [Addr.add] using World.cell?_spot hu0
              have hadd : ∀ i j, (ad.add (i * z)).add j = ⟨ad.block, ad.off + (i * z + j), none⟩ := by
                intro i j
                obtain ⟨b, off, sp⟩ := ad
                simp only at hsp
                subst hsp
                unfold Addr.add
                split <;> split <;> simp <;> omega
              have hb : ad.block < W.heap.size := by
                rw [hadd] at hu0
                simp only [World.cell?] at hu0
                cases hh : W.heap[ad.block]? with
                | none => simp [hh] at hu0
                | some o => exact (Array.getElem?_eq_some_iff.1 hh).1
              have key : ∀ (i j : Nat) x c, (l.map en)[i]? = some x → x[j]? = some c → ∃ u, W.cell? ⟨ad.block, ad.off + (i * z + j), none⟩ = some u ∧ u.oneCell' = true ∧ FRel W (fun _ => False) c u := by
                intro i j x c hx hc
                rw [List.getElem?_map] at hx
                obtain ⟨a, ha, rfl⟩ := Option.map_eq_some_iff.1 hx
                obtain ⟨q1, q2⟩ := hlq i a ha
                have hj : j < z := by rw [← hl a q1]; exact (List.getElem?_eq_some_iff.1 hc).1
                obtain ⟨u, u1, u2, u3⟩ := q2 j hj
                exact ⟨u, by rw [← hadd]; exact u1, u2, u3 c hc⟩
              refine .sl (fun i j => (W.cell? ⟨ad.block, ad.off + (i * z + j), none⟩).getD undef) (by simp [hll]) hc.2.1 (by simp) hsp hb (fun h => h) (fun x hx => ?_) (fun i j x c hx hc => ?_) (fun i j x c hx hc => ?_) (fun i j x c hx hc => ?_)
              · obtain ⟨a, ha, rfl⟩ := List.mem_map.1 hx
                exact hl a (hgood a ha)
              · obtain ⟨u, u1, _⟩ := key i j x c hx hc
                rw [u1]; rfl
              · obtain ⟨u, u1, u2, _⟩ := key i j x c hx hc
                simp only [u1, Option.getD_some]; exact u2
              · obtain ⟨u, u1, _, u3⟩ := key i j x c hx hc
                simp only [u1, Option.getD_some]; exact u3
          · cases h
      | _ => simp [DataW.trod, hu] at h

/-- Cells that are related, one by one. -/
def CR (W : World) (as : List AV) (vs : List Value) : Prop := as.length = vs.length ∧ ∀ (j : Nat) c v, as[j]? = some c → vs[j]? = some v → FRel W (fun _ => False) c v ∧ v.oneCell' = true

theorem CR.append {as bs : List AV} {vs ws : List Value} (h : CR W as vs) (h' : CR W bs ws) : CR W (as ++ bs) (vs ++ ws) := by
  refine ⟨by simp [h.1, h'.1], fun j c v hc hv => ?_⟩
  rcases Nat.lt_or_ge j as.length with hj | hj
  · rw [List.getElem?_append_left hj] at hc
    rw [List.getElem?_append_left (by rw [← h.1]; exact hj)] at hv
    exact h.2 j c v hc hv
  · rw [List.getElem?_append_right hj] at hc
    rw [List.getElem?_append_right (by rw [← h.1]; exact hj), ← h.1] at hv
    exact h'.2 _ c v hc hv

theorem Rd.array {n e z : Nat} (hu : P.underlying t = some (.array n e)) (hz : P.cellsOf e = z) (hs : P.cellsOf t = n * z) {A : Type} {en : A → List AV} {good : A → Prop} (he : Rd e0 P W e en good) :
    Rd e0 P W t (fun l : List A => l.flatMap en) (fun l => l.length = n ∧ ∀ a ∈ l, good a) := by
  intro fuel cs d ps h
  cases fuel with
  | zero => simp [DataW.trod] at h
  | succ fuel =>
    simp only [DataW.trod, hu] at h
    split at h
    · rename_i hlen
      obtain ⟨xs, hxs, _⟩ := Option.map_eq_some_iff.1 h
      obtain ⟨_, h2⟩ := mapM_opt hxs
      have hel : ∀ i, i < n → ∃ x, good x ∧ CR W (en x) ((cs.drop (i * z)).take z) := by
        intro i hi
        obtain ⟨y, _, hy⟩ := h2 i i (by simp [hi])
        rw [hz] at hy
        obtain ⟨x, q1, q2, q3⟩ := he fuel _ y.1 y.2 hy
        exact ⟨x, q1, q2, q3⟩
      have main : ∀ m, m ≤ n → ∃ l : List A, l.length = m ∧ (∀ a ∈ l, good a) ∧ CR W (l.flatMap en) (cs.take (m * z)) := by
        intro m
        induction m with
        | zero => exact fun _ => ⟨[], rfl, by simp, by simp [CR]⟩
        | succ m ih =>
          intro hm
          obtain ⟨l, l1, l2, l3⟩ := ih (by omega)
          obtain ⟨x, x1, x2⟩ := hel m (by omega)
          refine ⟨l ++ [x], by simp [l1], fun a ha => ?_, ?_⟩
          · rcases List.mem_append.1 ha with ha | ha
            · exact l2 a ha
            · cases List.mem_singleton.1 ha; exact x1
          · rw [List.flatMap_append, Nat.succ_mul, List.take_add]
            simpa using l3.append x2
      obtain ⟨l, l1, l2, l3⟩ := main n (Nat.le_refl _)
      rw [← hs, ← hlen, List.take_length] at l3
      exact ⟨l, ⟨l1, l2⟩, l3.1, l3.2⟩
    · cases h

/-- Some fields of a struct, one behind the other from a place on. -/
def RdF {H : Type} (e0 : TypeId × Value → H) (P : Program) (W : World) (fs : List Field) (off : Nat) {A : Type} (en : A → List AV) (good : A → Prop) (size : Nat) : Prop :=
  ∀ fuel (cs : List Value) xs, fs.mapM (fun f => DataW.trod e0 P W 0 (fun _ => true) true fuel f.type ((cs.drop f.offset).take (P.cellsOf f.type))) = some xs →
    ∃ a, good a ∧ CR W (en a) ((cs.drop off).take size)

theorem RdF.nil {off : Nat} : RdF e0 P W [] off (fun _ : Unit => []) (fun _ => True) 0 := fun fuel cs xs h => ⟨(), trivial, by simp [CR]⟩

theorem RdF.cons {f : Field} {fs : List Field} {off z n : Nat} (ho : f.offset = off) (hz : P.cellsOf f.type = z) {A B : Type} {en : A → List AV} {good : A → Prop} {en' : B → List AV} {good' : B → Prop}
    (hf : Rd e0 P W f.type en good) (hr : RdF e0 P W fs (off + z) en' good' n) : RdF e0 P W (f :: fs) off (fun p : A × B => en p.1 ++ en' p.2) (fun p => good p.1 ∧ good' p.2) (z + n) := by
  intro fuel cs xs h
  simp only [List.mapM_cons, Option.bind_eq_bind, Option.bind_eq_some_iff] at h
  obtain ⟨y, h1, r', h2, h3⟩ := h
  rw [ho, hz] at h1
  obtain ⟨a, a1, a2, a3⟩ := hf fuel _ y.1 y.2 h1
  obtain ⟨b, b1, b2⟩ := hr fuel cs r' h2
  refine ⟨(a, b), ⟨a1, b1⟩, ?_⟩
  rw [List.take_add]
  refine CR.append ⟨a2, a3⟩ ?_
  rw [List.drop_drop]
  exact b2

theorem Rd.struct {fs : Array Field} {n : Nat} (hu : P.underlying t = some (.struct fs)) (hs : P.cellsOf t = n) {A : Type} {en : A → List AV} {good : A → Prop} (h : RdF e0 P W fs.toList 0 en good n) : Rd e0 P W t en good := by
  intro fuel cs d ps hd
  cases fuel with
  | zero => simp [DataW.trod] at hd
  | succ fuel =>
    simp only [DataW.trod, hu] at hd
    split at hd
    · rename_i hlen
      obtain ⟨xs, hxs, _⟩ := Option.map_eq_some_iff.1 hd
      obtain ⟨a, a1, a2⟩ := h fuel cs xs hxs
      rw [hs] at hlen
      rw [List.drop_zero, ← hlen, List.take_length] at a2
      exact ⟨a, a1, a2.1, a2.2⟩
    · cases hd

/-- Another way to put it. -/
theorem Rd.map {A B : Type} {en : A → List AV} {good : A → Prop} {en' : B → List AV} {good' : B → Prop} (h : Rd e0 P W t en good) (f : A → B) (hg : ∀ a, good a → good' (f a)) (he : ∀ a, good a → en' (f a) = en a) : Rd e0 P W t en' good' := by
  intro fuel cs d ps hd
  obtain ⟨a, a1, a2, a3⟩ := h fuel cs d ps hd
  exact ⟨f a, hg a a1, by rw [he a a1]; exact a2, by rw [he a a1]; exact a3⟩
end
end Go.Abs
