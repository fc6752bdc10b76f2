/- Operations in their places: one behind the other. -/
import Derived.Test.YtlphdiccffnckaaRef
namespace Go.Abs

/-- The written form of an operation is in order. -/
def AOp.fine (nt : Nat) (ops : List AOp) (a : AOp) : Bool :=
  (match a.o.dst with
   | some d => decide (d < nt)
   | none => true) &&
  (match a.o.guard, a.g with
   | none, none => true
   | some (j, w), some (g, w') => (w == w') && (match ops[j]? with
     | some o => (match o.o.dst with
       | some d => Nat.beq d g
       | none => false)
     | none => false)
   | _, _ => false)

def mark (r : Nat) : Deferred := { target := .collected r, args := #[] }

/-- The marks of the loops over functions, in their order. -/
def DefOk (X0 : Cx) (ds : List Deferred) (X : Cx) : Prop := ∃ rs : List Nat, ds = rs.map mark ∧ rs.Nodup ∧ ∀ r ∈ rs, X0.w.heap.size ≤ r ∧ X.w.heap[r]? = some (.deferred (some []))

/-- Where the evaluation is, and where the machine is. -/
structure StRel (X0 : Cx) (L : List Nat) (nt : Nat) (st : St) (a : Act) (X : Cx) : Prop where
  ok : X.Ok
  trans : Trans X0 X
  hH : X.H = st.H
  slots : SRel X L st.tm a.tmps
  size : nt ≤ a.tmps.size
  b : st.b = X0.E.length
  ref : RefL st.b X0.H st.H
  defs : DefOk X0 a.defers X

theorem Cx.Ok.notDeferred {X : Cx} (h : X.Ok) {r : Nat} {d : Option (List Deferred)} (hd : X.w.heap[r]? = some (.deferred d)) : ¬ X.holds r := by
  rintro ⟨k, e, he, hb⟩
  obtain ⟨h', _, hr⟩ := h.hent he
  cases h' <;> cases e <;> simp only [EntRel] at hr
  · simp only [EC.blk, Option.some.injEq] at hb
    obtain ⟨_, arr, T, h1, _⟩ := hr
    rw [hb, hd] at h1
    cases h1
  · obtain ⟨_, _, ⟨a, rfl, _⟩ | ⟨b', cap, arr, T, rfl, _, h1, _⟩⟩ := hr
    · cases a <;> simp [EC.blk] at hb
    · simp only [EC.blk, Option.some.injEq] at hb
      rw [hb, hd] at h1
      cases h1
  · simp only [EC.blk, Option.some.injEq] at hb
    rw [hb, hd] at hr
    exact absurd hr.2 (by simp)
  · simp [EC.blk] at hb

theorem DefOk.trans {X0 X X' : Cx} {ds : List Deferred} (h : DefOk X0 ds X) (t : Trans X X') (hX : X.Ok) : DefOk X0 ds X' := by
  obtain ⟨rs, h1, h2, h3⟩ := h
  refine ⟨rs, h1, h2, fun r hr => ?_⟩
  obtain ⟨h4, h5⟩ := h3 r hr
  refine ⟨h4, ?_⟩
  rw [t.same r (Array.getElem?_eq_some_iff.1 h5).1 (hX.notDeferred h5)]
  exact h5

theorem put_defers (a : Act) (dst : Option Nat) (v : Value) : (a.put dst v).defers = a.defers := by cases dst <;> rfl
theorem put_size (a : Act) (dst : Option Nat) (v : Value) : (a.put dst v).tmps.size = a.tmps.size := by cases dst <;> simp [Act.put]

section
variable {P : Program} {E : Env} {C : CF} {Y : List YF} {L : List Nat} {F : Fence} {nt : Nat} {X0 : Cx}

theorem yielded_of {ops : List AOp} {j g : Nat} {o : AOp} (hj : ops[j]? = some o) (hd : o.o.dst = some g) {tm : Slots} {a : Act} {X : Cx} (hS : SRel X L tm a.tmps) {t : Bool} (ht : tm.get g = .sc (.bool t)) :
    yielded (ops.map (·.o)).toArray a.tmps j = some t := by
  have h1 := hS g
  rw [ht] at h1
  have h2 := h1.sc_inv
  unfold yielded
  simp only [List.getElem?_toArray, List.getElem?_map, hj, Option.map_some, Option.bind_some, hd]
  rw [Array.getD_eq_getD_getElem?] at h2
  cases hg : a.tmps[g]? with
  | none => rw [hg] at h2; simp [undef] at h2
  | some v => rw [hg] at h2; simp at h2; simp [h2]

theorem yielded_no {ops : List AOp} {j g : Nat} {o : AOp} (hj : ops[j]? = some o) (hd : o.o.dst = some g) {tm : Slots} {a : Act} {X : Cx} (hS : SRel X L tm a.tmps) {vs : Array Value} (ht : tm.get g = .sc (.tuple vs)) :
    yielded (ops.map (·.o)).toArray a.tmps j = none := by
  have h1 := hS g
  rw [ht] at h1
  have h2 := h1.sc_inv
  unfold yielded
  simp only [List.getElem?_toArray, List.getElem?_map, hj, Option.map_some, Option.bind_some, hd]
  rw [Array.getD_eq_getD_getElem?] at h2
  cases hg : a.tmps[g]? with
  | none => simp
  | some v => rw [hg] at h2; simp at h2; simp [h2]

/-- Whether it is done. -/
theorem wanted_of {ops : List AOp} {ao : AOp} (hf : ao.fine nt ops = true) {tm : Slots} {a : Act} {X : Cx} (hS : SRel X L tm a.tmps) :
    (ao.g = none → Region.wanted ao.o (yielded (ops.map (·.o)).toArray a.tmps) = true) ∧
    (∀ g w t, ao.g = some (g, w) → tm.get g = .sc (.bool t) → Region.wanted ao.o (yielded (ops.map (·.o)).toArray a.tmps) = (t == w)) ∧
    (∀ g w vs, ao.g = some (g, w) → tm.get g = .sc (.tuple vs) → Region.wanted ao.o (yielded (ops.map (·.o)).toArray a.tmps) = false) := by
  unfold AOp.fine at hf
  simp only [Bool.and_eq_true] at hf
  obtain ⟨_, h⟩ := hf
  refine ⟨fun hg => ?_, fun g w t hg ht => ?_, fun g w vs hg ht => ?_⟩
  · cases hgu : ao.o.guard with
    | none => simp [Region.wanted, hgu]
    | some p => obtain ⟨j, w⟩ := p; simp [hgu, hg] at h
  · cases hgu : ao.o.guard with
    | none => simp [hgu, hg] at h
    | some p =>
      obtain ⟨j, w'⟩ := p
      simp only [hgu, hg, Bool.and_eq_true, beq_iff_eq] at h
      obtain ⟨rfl, h⟩ := h
      split at h
      · rename_i o hj
        split at h
        · rename_i d hd
          have := Nat.eq_of_beq_eq_true h
          subst this
          simp only [Region.wanted, hgu, yielded_of hj hd hS ht]
          cases t <;> cases w' <;> rfl
        · cases h
      · cases h
  · cases hgu : ao.o.guard with
    | none => simp [hgu, hg] at h
    | some p =>
      obtain ⟨j, w'⟩ := p
      simp only [hgu, hg, Bool.and_eq_true, beq_iff_eq] at h
      obtain ⟨rfl, h⟩ := h
      split at h
      · rename_i o hj
        split at h
        · rename_i d hd
          have := Nat.eq_of_beq_eq_true h
          subst this
          simp only [Region.wanted, hgu, yielded_no hj hd hS ht]
          rfl
        · cases h
      · cases h

theorem dst_lt {ops : List AOp} {ao : AOp} (hf : ao.fine nt ops = true) {d : Nat} (hd : ao.o.dst = some d) : d < nt := by
  unfold AOp.fine at hf
  simp only [hd, Bool.and_eq_true, decide_eq_true_eq] at hf
  exact hf.1

/-- An operation of a region that is done. -/
theorem opIn_do (hT : TOk P E.T) (hC : CSound P E.G C) (hF : WF F) {X : Cx} (hX : X.Ok) (hG : GOk E.G X) (hY : YSound P X L Y) {ops : List AOp} {i : Nat} {ao : AOp} (hi : ops[i]? = some ao)
    {tm : Slots} {a : Act} (hS : SRel X L tm a.tmps) {b : Nat} {r : OR} (hw : Region.wanted ao.o (yielded (ops.map (·.o)).toArray a.tmps) = true)
    (h : aop E C Y ao b tm X.H = some r) {K : Act → World → Prop} {Q : Exit → Act → World → Prop} (hg : Goals X L a ao.o.dst r K Q) : wpOpIn F 0 P (ops.map (·.o)).toArray Q i K a X.w := by
  unfold wpOpIn
  simp only [List.getElem?_toArray, List.getElem?_map, hi, Option.map_some]
  rw [if_pos hw]
  exact aop_sound hT hC hF hX hG hY hS h hg

/-- An operation of a region that is not done. -/
theorem opIn_not (hF : WF F) {ops : List AOp} {i : Nat} {ao : AOp} (hi : ops[i]? = some ao)
    {a : Act} {w : World} (hw : Region.wanted ao.o (yielded (ops.map (·.o)).toArray a.tmps) = false)
    {K : Act → World → Prop} {Q : Exit → Act → World → Prop} (hg : K (a.put ao.o.dst undef) w) : wpOpIn F 0 P (ops.map (·.o)).toArray Q i K a w := by
  unfold wpOpIn
  simp only [List.getElem?_toArray, List.getElem?_map, hi, Option.map_some]
  rw [if_neg (by rw [hw]; simp)]
  exact ⟨fun f _ => hF.fn f, hg⟩

/-- What must be shown of the way on. -/
def Onward (L : List Nat) (S : St → Act → Cx → Prop) (ex : Ex) (st' : St) (Q : Exit → Act → World → Prop) : Prop :=
  match ex with
  | .normal => ∀ a' X', S st' a' X' → Q .normal a' X'.w
  | .exit id => ∀ a' X', S st' a' X' → Q (.exit id) a' X'.w
  | .ret => ∀ a' X', S st' a' X' → Q .ret a' X'.w
  | .pan v => ∀ a' X' cv, S st' a' X' → VRel X' L v cv → Q (.panic [{ v := cv, recovered := false }]) a' X'.w

/-- What is given around. -/
structure Base (P : Program) (E : Env) (C : CF) (Y : List YF) (L : List Nat) (F : Fence) (X0 : Cx) : Prop where
  tok : TOk P E.T
  cs : CSound P E.G C
  cr : CRef C
  wf : WF F
  ok0 : X0.Ok
  gok : GOk E.G X0
  ys : YSound P X0 L Y
  rd : ∀ l, F.round = some l → ∃ (k : Nat) (r : Loop) (s : LoopState) (p : Option Jmp), X0.E[k]? = some (.loop l r) ∧ X0.H[k]? = some (.loop s p)


theorem StRel.lenB (B : Base P E C Y L F X0) {st : St} {a : Act} {X : Cx} (h : StRel X0 L nt st a X) : st.b ≤ st.H.length := by
  rw [h.b, ← h.hH, ← h.ok.len]
  exact h.trans.lenE B.ok0

/-- After an operation. -/
theorem StRel.next (B : Base P E C Y L F X0) {st : St} {a : Act} {X X' : Cx} (h : StRel X0 L nt st a X) (hok : X'.Ok) (t : Trans X X') {tm' : Slots} {H' : List Ent} (hH : X'.H = H')
    (href : RefL st.b st.H H') {a' : Act} (hS : SRel X' L tm' a'.tmps) (hs : a'.tmps.size = a.tmps.size) (hd : a'.defers = a.defers) : StRel X0 L nt { st with tm := tm', H := H' } a' X' where
  ok := hok
  trans := h.trans.trans t
  hH := hH
  slots := hS
  size := by rw [hs]; exact h.size
  b := h.b
  ref := h.ref.trans href
  defs := hd ▸ h.defs.trans t h.ok

theorem stepOp_sound (B : Base P E C Y L F X0) {ops : List AOp} {i : Nat} {ao : AOp} (hi : ops[i]? = some ao) (hf : ao.fine nt ops = true) {st st' : St} {ex : Ex} {a : Act} {X : Cx} (hS : StRel X0 L nt st a X)
    (h : stepOp E C Y ao st = some (ex, st')) {K : Act → World → Prop} {Q : Exit → Act → World → Prop} (hn : ex = .normal → ∀ a' X', StRel X0 L nt st' a' X' → K a' X'.w)
    (hp : ∀ v, ex = .pan v → ∀ a' X' cv, StRel X0 L nt st' a' X' → VRel X' L v cv → Q (.panic [{ v := cv, recovered := false }]) a' X'.w) :
    wpOpIn F 0 P (ops.map (·.o)).toArray Q i K a X.w := by
  have hw := wanted_of hf hS.slots
  have hG := B.gok.trans hS.trans B.ok0
  have hY := B.ys.later hS.trans
  have go : Region.wanted ao.o (yielded (ops.map (·.o)).toArray a.tmps) = true → (match aop E C Y ao st.b st.tm st.H with
        | some (.val v H) => some (Ex.normal, { st with tm := setDst ao.o.dst v st.tm, H := H })
        | some (.pan v H) => some (Ex.pan v, { st with H := H })
        | none => none) = some (ex, st') → wpOpIn F 0 P (ops.map (·.o)).toArray Q i K a X.w := by
    intro hwt h
    cases ha : aop E C Y ao st.b st.tm st.H with
    | none => simp [ha] at h
    | some r =>
      have hr := aop_ref (b := st.b) B.cr B.ys.2.1 (hS.lenB B) ha
      refine opIn_do B.tok B.cs B.wf hS.ok hG hY hi hS.slots hwt (b := st.b) (r := r) (by rw [hS.hH]; exact ha) ⟨fun v H' e X' cv hok t hH hv => ?_, fun v H' e X' cv hok t hH hv => ?_⟩
      · subst e
        rw [ha] at h
        cases h
        refine hn rfl _ X' (hS.next B hok t hH hr (SRel.put (hS.slots.trans t hS.ok) (fun d hd => ?_) hv) (put_size _ _ _) (put_defers _ _ _))
        exact Nat.lt_of_lt_of_le (dst_lt hf hd) hS.size
      · subst e
        rw [ha] at h
        cases h
        exact hp v rfl _ X' cv (hS.next B hok t hH hr (hS.slots.trans t hS.ok) rfl rfl) hv
  unfold stepOp at h
  split at h
  · rename_i hg
    exact go (hw.1 hg) h
  · rename_i g w hg
    split at h
    · rename_i t ht
      have hwt := hw.2.1 g w t hg ht
      split at h
      · rename_i htw
        exact go (by rw [hwt, htw]; simp) h
      · rename_i htw
        cases h
        refine opIn_not B.wf hi (by rw [hwt]; simpa using htw) (hn rfl _ X (hS.next B hS.ok (Trans.refl hS.ok) hS.hH (.refl _ _) (SRel.put hS.slots (fun d hd => ?_) (.frz (.sc _))) (put_size _ _ _) (put_defers _ _ _)))
        exact Nat.lt_of_lt_of_le (dst_lt hf hd) hS.size
    · rename_i vs ht
      cases h
      refine opIn_not B.wf hi (hw.2.2 g w vs hg ht) (hn rfl _ X (hS.next B hS.ok (Trans.refl hS.ok) hS.hH (.refl _ _) (SRel.put hS.slots (fun d hd => ?_) (.frz (.sc _))) (put_size _ _ _) (put_defers _ _ _)))
      exact Nat.lt_of_lt_of_le (dst_lt hf hd) hS.size
    · cases h

theorem runOps_sound (B : Base P E C Y L F X0) {ops : List AOp} (hf : ∀ ao ∈ ops, ao.fine nt ops = true) {Q : Exit → Act → World → Prop} : ∀ (as : List AOp) (i : Nat), ops.drop i = as → ∀ {st st' : St} {ex : Ex} {a : Act} {X : Cx},
    StRel X0 L nt st a X → runOps E C Y as st = some (ex, st') → Onward L (StRel X0 L nt) ex st' Q → (∀ v, ex ≠ .exit v) → ex ≠ .ret → wpOpsIn F 0 P (ops.map (·.o)).toArray Q (List.range' i as.length) a X.w
  | [], i, hd, st, st', ex, a, X, hS, h, hon, _, _ => by
    cases h
    exact hon a X hS
  | ao :: as, i, hd, st, st', ex, a, X, hS, h, hon, he, hr => by
    have hi : ops[i]? = some ao := by
      have : (ops.drop i)[0]? = some ao := by rw [hd]; rfl
      simpa using this
    rw [List.length_cons, List.range'_succ, wpOpsIn_cons]
    simp only [runOps] at h
    have hm := List.mem_of_getElem? hi
    split at h
    · rename_i st1 h1
      refine stepOp_sound B hi (hf ao hm) hS h1 (fun _ a' X' hS' => ?_) (fun v hv => by cases hv)
      refine runOps_sound B hf as (i + 1) ?_ hS' h hon he hr
      rw [← List.drop_drop, hd]
      rfl
    · refine stepOp_sound B hi (hf ao hm) hS h (fun hn => ?_) (fun v hv a' X' cv hS' hv' => ?_)
      · rename_i hnot
        subst hn
        exact absurd h (hnot st')
      · subst hv
        exact hon a' X' cv hS' hv'

theorem stepOp_ex {a : AOp} {st st' : St} {ex : Ex} (h : stepOp E C Y a st = some (ex, st')) : (∀ v, ex ≠ .exit v) ∧ ex ≠ .ret := by
  unfold stepOp at h
  split at h
  · split at h <;> cases h <;> simp
  · split at h
    · split at h
      · split at h <;> cases h <;> simp
      · cases h; simp
    · cases h; simp
    · cases h

theorem runOps_ex : ∀ {as : List AOp} {st st' : St} {ex : Ex}, runOps E C Y as st = some (ex, st') → (∀ v, ex ≠ .exit v) ∧ ex ≠ .ret
  | [], st, st', ex, h => by cases h; simp
  | a :: as, st, st', ex, h => by
    simp only [runOps] at h
    split at h
    · exact runOps_ex h
    · exact stepOp_ex h

/-- A region whose order is fixed. -/
theorem region_sound (B : Base P E C Y L F X0) {ops : List AOp} (hf : ∀ ao ∈ ops, ao.fine nt ops = true) {id : Nat} {st st' : St} {ex : Ex} {a : Act} {X : Cx} {Q : Exit → Act → World → Prop}
    (hS : StRel X0 L nt st a X) (h : runOps E C Y ops st = some (ex, st')) (hon : Onward L (StRel X0 L nt) ex st' Q) : (Code.region id (ops.map (·.o)).toArray false).wpIn F 0 P Q a X.w := by
  refine wpIn_region ?_
  have := runOps_sound B hf ops 0 rfl hS h hon (runOps_ex h).1 (runOps_ex h).2
  rw [List.size_toArray, List.length_map, List.range_eq_range']
  exact this

end
end Go.Abs
