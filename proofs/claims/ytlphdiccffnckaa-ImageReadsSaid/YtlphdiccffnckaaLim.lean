/- Without a bound on rounds and depth: the least answers; how they are found. -/
import Derived.Test.YtlphdiccffnckaaCte
namespace Go.Abs

abbrev DF := St → Option (Ex × St)
def FLe (D D' : DF) : Prop := ∀ st r, D st = some r → D' st = some r
def YLe (Y Y' : List YF) : Prop := Y'.length = Y.length ∧ ∀ (j : Nat) y y', Y[j]? = some y → Y'[j]? = some y' → ∀ args H r, y args H = some r → y' args H = some r
def CLe (C C' : CF) : Prop := ∀ f args H Y Y' r, YLe Y Y' → C f args H Y = some r → C' f args H Y' = some r
def LLe (lp lp' : DF → DF) : Prop := ∀ D D', FLe D D' → FLe (lp D) (lp' D')

theorem FLe.refl (D : DF) : FLe D D := fun _ _ h => h
theorem YLe.refl (Y : List YF) : YLe Y Y := ⟨rfl, fun j y y' h h' args H r hr => by rw [h] at h'; cases h'; exact hr⟩
theorem YLe.get {Y Y' : List YF} (h : YLe Y Y') {j : Nat} {y : YF} (hy : Y[j]? = some y) : ∃ y', Y'[j]? = some y' ∧ ∀ args H r, y args H = some r → y' args H = some r := by
  have hlt := (List.getElem?_eq_some_iff.1 hy).1
  have : Y'[j]? = some (Y'[j]'(by rw [h.1]; exact hlt)) := List.getElem?_eq_getElem _
  exact ⟨_, this, h.2 j y _ hy this⟩
theorem YLe.push {Y Y' : List YF} (h : YLe Y Y') {y y' : YF} (hy : ∀ args H r, y args H = some r → y' args H = some r) : YLe (Y ++ [y]) (Y' ++ [y']) := by
  refine ⟨by simp [h.1], fun j z z' hz hz' => ?_⟩
  rcases getElem?_push hz with hz | ⟨hj, rfl⟩
  · rcases getElem?_push hz' with hz' | ⟨hj, rfl⟩
    · exact h.2 j z z' hz hz'
    · have := (List.getElem?_eq_some_iff.1 hz).1
      have := h.1
      omega
  · rcases getElem?_push hz' with hz' | ⟨_, rfl⟩
    · have := (List.getElem?_eq_some_iff.1 hz').1
      have := h.1
      omega
    · exact hy

section
variable {E : Env} {C C' : CF} {Y Y' : List YF}

theorem outR_mono {q q' : Option (Out × List Ent)} (h : ∀ r, q = some r → q' = some r) {r : OR} (hr : outR q = some r) : outR q' = some r := by
  cases q with
  | none => simp [outR] at hr
  | some x => rw [h x rfl]; exact hr

theorem bareCall_mono (hC : CLe C C') {g : Nat} {as : List AV} {H : List Ent} {r : OR} (h : bareCall C g as H = some r) : bareCall C' g as H = some r := by
  have c0 : ∀ {r}, C g as [] [] = some r → C' g as [] [] = some r := fun h => hC _ _ _ _ _ _ (YLe.refl _) h
  unfold bareCall at h ⊢
  cases hc : C g as [] [] with
  | none => simp [hc] at h
  | some x => rw [hc] at h; rw [c0 hc]; exact h
theorem askEmpty_mono (hC : CLe C C') {g : Nat} {as : List AV} (h : askEmpty C g as = true) : askEmpty C' g as = true := by
  have c0 : ∀ {r}, C g as [] [] = some r → C' g as [] [] = some r := fun h => hC _ _ _ _ _ _ (YLe.refl _) h
  unfold askEmpty at h ⊢
  cases hc : C g as [] [] with
  | none => simp [hc] at h
  | some x => rw [hc] at h; rw [c0 hc]; exact h

theorem aCallFn_mono (hC : CLe C C') (hY : YLe Y Y') {f : Fl} {H : List Ent} {callee : AV} {args : List AV} {r : OR} (h : aCallFn C Y f H callee args = some r) : aCallFn C' Y' f H callee args = some r := by
  have c0 : ∀ {g as r}, C g as [] [] = some r → C' g as [] [] = some r := fun h => hC _ _ _ _ _ _ (YLe.refl _) h
  unfold aCallFn at h ⊢
  split at h
  · split at h
    · exact outR_mono (fun r hr => hC _ _ _ _ _ _ hY hr) h
    · exact outR_mono (fun r hr => hC _ _ _ _ _ _ hY hr) h
    · split at h
      · cases h
      · split at h
        · rename_i hp
          rw [if_pos hp]
          split at h
          · rename_i hc
            rw [c0 hc]
            exact h
          · cases h
        · cases h
    · split at h
      · rename_i hp
        rw [if_pos hp]
        split at h
        · rename_i hc
          rw [c0 hc]
          exact h
        · rename_i hc
          rw [c0 hc]
          exact h
        · cases h
      · cases h
    · split at h
      · rename_i hp
        rw [if_pos hp]
        split at h
        · split at h
          · rename_i hb
            simp only [Bool.and_eq_true] at hb
            simp only [askEmpty_mono hC hb.1, askEmpty_mono hC hb.2, Bool.and_self, if_true]
            exact h
          · cases h
        · exact bareCall_mono hC h
      · cases h
  · split at h
    · rename_i y hy
      obtain ⟨y', hy', hle⟩ := hY.get hy
      simp only [hy']
      exact outR_mono (fun r hr => hle _ _ _ hr) h
    · cases h
  · cases h

theorem aop_mono (hC : CLe C C') (hY : YLe Y Y') {a : AOp} {ρ : Operand → AV} {b : Nat} {H : List Ent} {r : OR} (h : aopW E C Y ρ a b H = some r) : aopW E C' Y' ρ a b H = some r := by
  unfold aopW at h ⊢
  cases hop : a.o.op <;> simp only [hop] at h ⊢ <;> try exact h
  rename_i c
  cases hc : c.callee <;> simp only [hc] at h ⊢
  · exact aCallFn_mono hC hY h
  · exact h
  · exact h

theorem stepOp_mono (hC : CLe C C') (hY : YLe Y Y') (a : AOp) : FLe (stepOp E C Y a) (stepOp E C' Y' a) := by
  intro st r h
  have go : ∀ {r}, (match aop E C Y a st.b st.tm st.H with
        | some (.val v H) => some (Ex.normal, { st with tm := setDst a.o.dst v st.tm, H := H })
        | some (.pan v H) => some (Ex.pan v, { st with H := H })
        | none => none) = some r → (match aop E C' Y' a st.b st.tm st.H with
        | some (.val v H) => some (Ex.normal, { st with tm := setDst a.o.dst v st.tm, H := H })
        | some (.pan v H) => some (Ex.pan v, { st with H := H })
        | none => none) = some r := by
    intro r h
    cases ha : aop E C Y a st.b st.tm st.H with
    | none => simp [ha] at h
    | some x => rw [show aop E C' Y' a st.b st.tm st.H = some x from aop_mono hC hY ha]; rw [ha] at h; exact h
  unfold stepOp at h ⊢
  split at h
  · exact go h
  · split at h
    · split at h
      · rename_i hw
        rw [if_pos hw]
        exact go h
      · rename_i hw
        rw [if_neg hw]
        exact h
    · exact h
    · cases h

theorem runOps_mono (hC : CLe C C') (hY : YLe Y Y') : ∀ (ops : List AOp), FLe (runOps E C Y ops) (runOps E C' Y' ops)
  | [] => fun _ _ h => h
  | a :: as => fun st r h => by
    simp only [runOps] at h ⊢
    split at h
    · rename_i st1 h1
      rw [stepOp_mono hC hY a _ _ h1]
      exact runOps_mono hC hY as _ _ h
    · rename_i hn
      have h2 := stepOp_mono hC hY a _ _ h
      rw [h2]
      rw [h] at hn
      obtain ⟨ex, st'⟩ := r
      cases ex <;> first | rfl | exact absurd rfl (hn _)

theorem loopIter_mono : ∀ {n m : Nat}, n ≤ m → LLe (loopIter n) (loopIter m)
  | 0, _, _ => fun D D' _ st r h => by simp [loopIter] at h
  | n + 1, 0, h => by omega
  | n + 1, m + 1, hnm => fun D D' hD st r h => by
    simp only [loopIter] at h ⊢
    split at h
    · rename_i st1 h1
      rw [hD _ _ h1]
      exact loopIter_mono (Nat.le_of_succ_le_succ hnm) D D' hD _ _ h
    · rename_i hn
      have h2 := hD _ _ h
      rw [h2]
      rw [h] at hn
      obtain ⟨ex, st'⟩ := r
      cases ex <;> first | rfl | exact absurd rfl (hn _)

theorem roundOf_mono {ps : List Nat} {tm : Slots} {k : Nat} {asg asg' body body' : DF} (ha : FLe asg asg') (hb : FLe body body') : ∀ args H r, roundOf ps tm k asg body args H = some r → roundOf ps tm k asg' body' args H = some r := by
  intro args H r h
  unfold roundOf at h ⊢
  split at h
  · split at h
    · rename_i hc
      rw [if_pos hc]
      split at h
      · rename_i st h1
        rw [ha _ _ h1]
        split at h
        · rename_i hk2
          split at h
          · rename_i ex st' h2
            simp only [hk2, hb _ _ h2]
            exact h
          · cases h
        · cases h
      · cases h
    · cases h
  · cases h

theorem rangeFn_mono (hC : CLe C C') (hY : YLe Y Y') {f : AV} {ps : List Nat} {asg asg' body body' : DF} (ha : FLe asg asg') (hb : FLe body body') : FLe (rangeFn C Y f ps asg body) (rangeFn C' Y' f ps asg' body') := by
  intro st r h
  unfold rangeFn at h ⊢
  split at h
  · split at h
    · rename_i h1
      rw [hY.1, hC _ _ _ _ _ _ (hY.push (roundOf_mono ha hb)) h1]
      exact h
    · cases h
  · cases h

theorem den_mono (hC : CLe C C') (hY : YLe Y Y') {lp lp' : DF → DF} (hl : LLe lp lp') : ∀ (ac : AC), FLe (den E C Y lp ac) (den E C' Y' lp' ac)
  | .skip => fun _ _ h => h
  | .exit _ => fun _ _ h => h
  | .ret => fun _ _ h => h
  | .region _ ops d => fun st r h => by
    simp only [den] at h ⊢
    cases h1 : runOps E C Y ops st with
    | none => simp [h1] at h
    | some x => rw [runOps_mono hC hY ops _ _ h1]; rw [h1] at h; exact h
  | .seq a b => fun st r h => by
    simp only [den] at h ⊢
    split at h
    · rename_i st1 h1
      rw [den_mono hC hY hl a _ _ h1]
      exact den_mono hC hY hl b _ _ h
    · rename_i hn
      have h2 := den_mono hC hY hl a _ _ h
      rw [h2]
      rw [h] at hn
      obtain ⟨ex, st'⟩ := r
      cases ex <;> first | rfl | exact absurd rfl (hn _)
  | .cond c a b => fun st r h => by
    simp only [den] at h ⊢
    split at h
    · split at h
      · rename_i ht
        rw [if_pos ht]
        exact den_mono hC hY hl a _ _ h
      · rename_i ht
        rw [if_neg ht]
        exact den_mono hC hY hl b _ _ h
    · cases h
  | .block id a => fun st r h => by
    simp only [den] at h ⊢
    cases h1 : den E C Y lp a st with
    | none => simp [h1] at h
    | some x => rw [den_mono hC hY hl a _ _ h1]; rw [h1] at h; exact h
  | .loop a => fun st r h => hl _ _ (den_mono hC hY hl a) st r h
  | .rangeFunc f ps a b => fun st r h => rangeFn_mono hC hY (den_mono hC hY hl a) (den_mono hC hY hl b) st r h
  | .ghost g a => fun st r h => by
    simp only [den] at h ⊢
    split at h
    · exact den_mono hC hY hl a _ _ h
    · cases h

theorem callN_mono {F : Nat → Option AFn} : ∀ {n m : Nat}, n ≤ m → CLe (callN E F n) (callN E F m)
  | 0, _, _ => fun f args H Y Y' r _ h => by simp [callN] at h
  | n + 1, 0, h => by omega
  | n + 1, m + 1, hnm => fun f args H Y Y' r hY h => by
    simp only [callN] at h ⊢
    split at h
    · cases h
    · rename_i A hA
      have hle := den_mono (E := E) (callN_mono (F := F) (Nat.le_of_succ_le_succ hnm)) hY (loopIter_mono (Nat.le_of_succ_le_succ hnm)) A.ac
      cases h1 : den E (callN E F n) Y (loopIter n) A.ac { tm := Slots.init 0 args, H := H, b := H.length } with
      | none => simp [h1] at h
      | some x => rw [hle _ _ h1]; rw [h1] at h; exact h

/-! ### What is reached in the limit -/

def YApp (Y : List YF) (Yn : Nat → List YF) : Prop := (∀ n, (Yn n).length = Y.length) ∧ (∀ n m, n ≤ m → YLe (Yn n) (Yn m)) ∧ ∀ (j : Nat) y, Y[j]? = some y → ∀ args H r, y args H = some r → ∃ n y', (Yn n)[j]? = some y' ∧ y' args H = some r
def FApp (D : DF) (Dn : Nat → DF) : Prop := (∀ n m, n ≤ m → FLe (Dn n) (Dn m)) ∧ ∀ st r, D st = some r → ∃ n, Dn n st = some r
def CApp (C : CF) (Cn : Nat → CF) : Prop := (∀ n m, n ≤ m → CLe (Cn n) (Cn m)) ∧ ∀ f args H Y Yn r, YApp Y Yn → C f args H Y = some r → ∃ n, Cn n f args H (Yn n) = some r
def LApp (lp : DF → DF) (lpn : Nat → DF → DF) : Prop := (∀ n m, n ≤ m → LLe (lpn n) (lpn m)) ∧ ∀ D Dn, FApp D Dn → ∀ st r, lp D st = some r → ∃ n, lpn n (Dn n) st = some r

theorem YApp.const (Y : List YF) : YApp Y (fun _ => Y) := ⟨fun _ => rfl, fun _ _ _ => YLe.refl Y, fun j y hy args H r hr => ⟨0, y, hy, hr⟩⟩

variable {Cn : Nat → CF} {Yn : Nat → List YF}

theorem CApp.nil (hC : CApp C Cn) {g : Nat} {as : List AV} {r : Out × List Ent} (h : C g as [] [] = some r) : ∃ n, Cn n g as [] [] = some r := hC.2 g as [] [] (fun _ => []) r (YApp.const []) h

theorem bareCall_lim (hC : CApp C Cn) {g : Nat} {as : List AV} {H : List Ent} {r : OR} (h : bareCall C g as H = some r) : ∃ n, bareCall (Cn n) g as H = some r := by
  unfold bareCall at h
  cases hc : C g as [] [] with
  | none => simp [hc] at h
  | some x =>
    obtain ⟨n, hn⟩ := hC.nil hc
    refine ⟨n, ?_⟩
    unfold bareCall
    rw [hc] at h
    rw [hn]
    exact h
theorem askEmpty_lim (hC : CApp C Cn) {g : Nat} {as : List AV} (h : askEmpty C g as = true) : ∃ n, askEmpty (Cn n) g as = true := by
  unfold askEmpty at h
  cases hc : C g as [] [] with
  | none => simp [hc] at h
  | some x =>
    obtain ⟨n, hn⟩ := hC.nil hc
    refine ⟨n, ?_⟩
    unfold askEmpty
    rw [hc] at h
    rw [hn]
    exact h

theorem aCallFn_lim (hC : CApp C Cn) (hY : YApp Y Yn) {f : Fl} {H : List Ent} {callee : AV} {args : List AV} {r : OR} (h : aCallFn C Y f H callee args = some r) : ∃ n, aCallFn (Cn n) (Yn n) f H callee args = some r := by
  have gen : ∀ {g as}, outR (C g as H Y) = some r → ∃ n, outR (Cn n g as H (Yn n)) = some r := by
    intro g as h
    cases hc : C g as H Y with
    | none => simp [hc, outR] at h
    | some x =>
      obtain ⟨n, hn⟩ := hC.2 _ _ _ _ _ _ hY hc
      exact ⟨n, by rw [hn, ← hc]; exact h⟩
  unfold aCallFn at h ⊢
  split at h
  · split at h
    · exact gen h
    · exact gen h
    · split at h
      · cases h
      · rename_i as has
        split at h
        · rename_i hp
          split at h
          · rename_i hc
            obtain ⟨n, hn⟩ := hC.nil hc
            exact ⟨n, by simp only [has, if_pos hp, hn]; exact h⟩
          · cases h
        · cases h
    · split at h
      · rename_i hp
        split at h
        · rename_i hc
          obtain ⟨n, hn⟩ := hC.nil hc
          exact ⟨n, by simp only [if_pos hp, hn]; exact h⟩
        · rename_i hc
          obtain ⟨n, hn⟩ := hC.nil hc
          exact ⟨n, by simp only [if_pos hp, hn]; exact h⟩
        · cases h
      · cases h
    · split at h
      · rename_i hp
        split at h
        · split at h
          · rename_i hb
            simp only [Bool.and_eq_true] at hb
            obtain ⟨n, hn⟩ := askEmpty_lim hC hb.1
            obtain ⟨m, hm⟩ := askEmpty_lim hC hb.2
            refine ⟨max n m, ?_⟩
            simp only [if_pos hp, askEmpty_mono (hC.1 n _ (Nat.le_max_left n m)) hn, askEmpty_mono (hC.1 m _ (Nat.le_max_right n m)) hm, Bool.and_self, if_true]
            exact h
          · cases h
        · rename_i hne
          obtain ⟨n, hn⟩ := bareCall_lim hC h
          refine ⟨n, ?_⟩
          rw [if_pos hp]
          exact hn
      · cases h
  · split at h
    · rename_i y hy
      cases hc : y args H with
      | none => simp [hc, outR] at h
      | some x =>
        obtain ⟨n, y', hy', hn⟩ := hY.2.2 _ y hy _ _ _ hc
        exact ⟨n, by simp only [hy']; rw [hn, ← hc]; exact h⟩
    · cases h
  · cases h

theorem aop_lim (hC : CApp C Cn) (hY : YApp Y Yn) {a : AOp} {ρ : Operand → AV} {b : Nat} {H : List Ent} {r : OR} (h : aopW E C Y ρ a b H = some r) : ∃ n, aopW E (Cn n) (Yn n) ρ a b H = some r := by
  unfold aopW at h ⊢
  cases hop : a.o.op <;> simp only [hop] at h ⊢ <;> try exact ⟨0, h⟩
  rename_i c
  cases hc : c.callee <;> simp only [hc] at h ⊢
  · exact aCallFn_lim hC hY h
  · exact ⟨0, h⟩
  · exact ⟨0, h⟩

theorem stepOp_lim (hC : CApp C Cn) (hY : YApp Y Yn) (a : AOp) {st : St} {r : Ex × St} (h : stepOp E C Y a st = some r) : ∃ n, stepOp E (Cn n) (Yn n) a st = some r := by
  have go : ∀ {r}, (match aop E C Y a st.b st.tm st.H with
        | some (.val v H) => some (Ex.normal, { st with tm := setDst a.o.dst v st.tm, H := H })
        | some (.pan v H) => some (Ex.pan v, { st with H := H })
        | none => none) = some r → ∃ n, (match aop E (Cn n) (Yn n) a st.b st.tm st.H with
        | some (.val v H) => some (Ex.normal, { st with tm := setDst a.o.dst v st.tm, H := H })
        | some (.pan v H) => some (Ex.pan v, { st with H := H })
        | none => none) = some r := by
    intro r h
    cases ha : aop E C Y a st.b st.tm st.H with
    | none => simp [ha] at h
    | some x =>
      obtain ⟨n, hn⟩ := aop_lim hC hY ha
      exact ⟨n, by rw [show aop E (Cn n) (Yn n) a st.b st.tm st.H = some x from hn]; rw [ha] at h; exact h⟩
  unfold stepOp at h ⊢
  split at h
  · exact go h
  · rename_i g w hg
    split at h
    · rename_i t ht
      split at h
      · rename_i hw
        obtain ⟨n, hn⟩ := go h
        exact ⟨n, by simp only [ht, if_pos hw]; exact hn⟩
      · rename_i hw
        exact ⟨0, by simp only [ht, if_neg hw]; exact h⟩
    · rename_i vs ht
      exact ⟨0, h⟩
    · cases h

theorem runOps_lim (hC : CApp C Cn) (hY : YApp Y Yn) : ∀ (ops : List AOp) {st : St} {r : Ex × St}, runOps E C Y ops st = some r → ∃ n, runOps E (Cn n) (Yn n) ops st = some r
  | [], st, r, h => ⟨0, h⟩
  | a :: as, st, r, h => by
    simp only [runOps] at h ⊢
    split at h
    · rename_i st1 h1
      obtain ⟨n, hn⟩ := stepOp_lim hC hY a h1
      obtain ⟨m, hm⟩ := runOps_lim hC hY as h
      refine ⟨max n m, ?_⟩
      rw [stepOp_mono (hC.1 n _ (Nat.le_max_left n m)) (hY.2.1 n _ (Nat.le_max_left n m)) a _ _ hn]
      exact runOps_mono (hC.1 m _ (Nat.le_max_right n m)) (hY.2.1 m _ (Nat.le_max_right n m)) as _ _ hm
    · rename_i hne
      obtain ⟨n, hn⟩ := stepOp_lim hC hY a h
      refine ⟨n, ?_⟩
      rw [hn]
      rw [h] at hne
      obtain ⟨ex, st'⟩ := r
      cases ex <;> first | rfl | exact absurd rfl (hne _)

theorem roundOf_lim {ps : List Nat} {tm : Slots} {k : Nat} {asg body : DF} {asgn bodyn : Nat → DF} (ha : FApp asg asgn) (hb : FApp body bodyn) {args : List AV} {H : List Ent} {r : Out × List Ent} (h : roundOf ps tm k asg body args H = some r) : ∃ n, roundOf ps tm k (asgn n) (bodyn n) args H = some r := by
  unfold roundOf at h ⊢
  split at h
  · rename_i hk
    split at h
    · rename_i hc
      split at h
      · rename_i st h1
        split at h
        · rename_i hk2
          split at h
          · rename_i ex st' h2
            obtain ⟨n, hn⟩ := ha.2 _ _ h1
            obtain ⟨m, hm⟩ := hb.2 _ _ h2
            refine ⟨max n m, ?_⟩
            simp only [if_pos hc, ha.1 n _ (Nat.le_max_left n m) _ _ hn, hk2, hb.1 m _ (Nat.le_max_right n m) _ _ hm]
            exact h
          · cases h
        · cases h
      · cases h
    · cases h
  · cases h

theorem rangeFn_lim (hC : CApp C Cn) (hY : YApp Y Yn) {f : AV} {ps : List Nat} {asg body : DF} {asgn bodyn : Nat → DF} (ha : FApp asg asgn) (hb : FApp body bodyn) {st : St} {r : Ex × St} (h : rangeFn C Y f ps asg body st = some r) :
    ∃ n, rangeFn (Cn n) (Yn n) f ps (asgn n) (bodyn n) st = some r := by
  unfold rangeFn at h ⊢
  split at h
  · split at h
    · rename_i h1
      have hY' : YApp (Y ++ [roundOf ps st.tm st.H.length asg body]) (fun n => Yn n ++ [roundOf ps st.tm st.H.length (asgn n) (bodyn n)]) := by
        refine ⟨fun n => by simp [hY.1 n], fun n m hnm => (hY.2.1 n m hnm).push (roundOf_mono (ha.1 n m hnm) (hb.1 n m hnm)), fun j y hy args H r hr => ?_⟩
        rcases getElem?_push hy with hy | ⟨rfl, rfl⟩
        · obtain ⟨n, y', hy', hn⟩ := hY.2.2 j y hy args H r hr
          exact ⟨n, y', getElem?_old hy', hn⟩
        · obtain ⟨n, hn⟩ := roundOf_lim ha hb hr
          exact ⟨n, _, by rw [← hY.1 n]; simp, hn⟩
      obtain ⟨n, hn⟩ := hC.2 _ _ _ _ _ _ hY' h1
      exact ⟨n, by rw [hY.1 n, hn]; exact h⟩
    · cases h
  · cases h

theorem den_app (hC : CApp C Cn) (hY : YApp Y Yn) {lp : DF → DF} {lpn : Nat → DF → DF} (hl : LApp lp lpn) : ∀ (ac : AC), FApp (den E C Y lp ac) (fun n => den E (Cn n) (Yn n) (lpn n) ac) := by
  have mono : ∀ ac n m, n ≤ m → FLe (den E (Cn n) (Yn n) (lpn n) ac) (den E (Cn m) (Yn m) (lpn m) ac) := fun ac n m hnm => den_mono (hC.1 n m hnm) (hY.2.1 n m hnm) (hl.1 n m hnm) ac
  intro ac
  refine ⟨mono ac, ?_⟩
  induction ac with
  | skip => exact fun st r h => ⟨0, h⟩
  | exit _ => exact fun st r h => ⟨0, h⟩
  | ret => exact fun st r h => ⟨0, h⟩
  | region id ops d =>
    intro st r h
    simp only [den] at h ⊢
    cases h1 : runOps E C Y ops st with
    | none => simp [h1] at h
    | some x =>
      obtain ⟨n, hn⟩ := runOps_lim hC hY ops h1
      exact ⟨n, by rw [hn, ← h1]; exact h⟩
  | seq a b iha ihb =>
    intro st r h
    simp only [den] at h ⊢
    split at h
    · rename_i st1 h1
      obtain ⟨n, hn⟩ := iha _ _ h1
      obtain ⟨m, hm⟩ := ihb _ _ h
      refine ⟨max n m, ?_⟩
      rw [mono a n _ (Nat.le_max_left n m) _ _ hn]
      exact mono b m _ (Nat.le_max_right n m) _ _ hm
    · rename_i hne
      obtain ⟨n, hn⟩ := iha _ _ h
      refine ⟨n, ?_⟩
      rw [show den E (Cn n) (Yn n) (lpn n) a st = some r from hn]
      rw [h] at hne
      obtain ⟨ex, st'⟩ := r
      cases ex <;> first | rfl | exact absurd rfl (hne _)
  | cond c a b iha ihb =>
    intro st r h
    simp only [den] at h ⊢
    split at h
    · split at h
      · rename_i ht
        obtain ⟨n, hn⟩ := iha _ _ h
        exact ⟨n, by simp only [if_pos ht]; exact hn⟩
      · rename_i ht
        obtain ⟨n, hn⟩ := ihb _ _ h
        exact ⟨n, by simp only [if_neg ht]; exact hn⟩
    · cases h
  | block id a iha =>
    intro st r h
    simp only [den] at h ⊢
    cases h1 : den E C Y lp a st with
    | none => simp [h1] at h
    | some x =>
      obtain ⟨n, hn⟩ := iha _ _ h1
      exact ⟨n, by rw [show den E (Cn n) (Yn n) (lpn n) a st = some x from hn, ← h1]; exact h⟩
  | loop a iha => exact fun st r h => hl.2 _ _ ⟨mono a, iha⟩ st r h
  | rangeFunc f ps a b iha ihb => exact fun st r h => rangeFn_lim hC hY ⟨mono a, iha⟩ ⟨mono b, ihb⟩ h
  | ghost g a iha =>
    intro st r h
    simp only [den] at h ⊢
    split at h
    · exact iha _ _ h
    · cases h

theorem loopIter_app : ∀ (k : Nat), LApp (loopIter k) loopIter
  | 0 => ⟨fun n m h => loopIter_mono h, fun D Dn hD st r h => by simp [loopIter] at h⟩
  | k + 1 => ⟨fun n m h => loopIter_mono h, fun D Dn hD st r h => by
    simp only [loopIter] at h
    split at h
    · rename_i st1 h1
      obtain ⟨n, hn⟩ := hD.2 _ _ h1
      obtain ⟨m, hm⟩ := (loopIter_app k).2 D Dn hD _ _ h
      refine ⟨max n m + 1, ?_⟩
      simp only [loopIter]
      rw [hD.1 n (max n m + 1) (by omega) _ _ hn]
      exact loopIter_mono (by omega) _ _ (hD.1 m (max n m + 1) (by omega)) _ _ hm
    · rename_i hne
      obtain ⟨n, hn⟩ := hD.2 _ _ h
      refine ⟨n + 1, ?_⟩
      simp only [loopIter]
      rw [hD.1 n (n + 1) (by omega) _ _ hn]
      rw [h] at hne
      obtain ⟨ex, st'⟩ := r
      cases ex <;> first | rfl | exact absurd rfl (hne _)⟩

theorem callN_app {F : Nat → Option AFn} : ∀ (k : Nat), CApp (callN E F k) (callN E F)
  | 0 => ⟨fun n m h => callN_mono h, fun f args H Y Yn r _ h => by simp [callN] at h⟩
  | k + 1 => ⟨fun n m h => callN_mono h, fun f args H Y Yn r hY h => by
    simp only [callN] at h
    split at h
    · cases h
    · rename_i A hA
      cases h1 : den E (callN E F k) Y (loopIter k) A.ac { tm := Slots.init 0 args, H := H, b := H.length } with
      | none => simp [h1] at h
      | some x =>
        obtain ⟨n, hn⟩ := (den_app (callN_app k) hY (loopIter_app k) A.ac).2 _ _ h1
        refine ⟨n + 1, ?_⟩
        simp only [callN, hA]
        rw [den_mono (callN_mono (Nat.le_refl n)) (hY.2.1 n (n + 1) (by omega)) (loopIter_mono (Nat.le_refl n)) A.ac _ _ hn, ← h1]
        exact h⟩

/-- What a loop does. -/
noncomputable def loopS (D : DF) : DF := fun st => open Classical in if h : ∃ n r, loopIter n D st = some r then loopIter h.choose D st else none
/-- What a function does. -/
noncomputable def callS (E : Env) (F : Nat → Option AFn) : CF := fun f args H Y => open Classical in if h : ∃ n r, callN E F n f args H Y = some r then callN E F h.choose f args H Y else none

theorem loopS_iff {D : DF} {st : St} {r : Ex × St} : loopS D st = some r ↔ ∃ n, loopIter n D st = some r := by
  constructor
  · intro h
    unfold loopS at h
    split at h
    · exact ⟨_, h⟩
    · cases h
  · rintro ⟨n, hn⟩
    have h : ∃ n r, loopIter n D st = some r := ⟨n, r, hn⟩
    unfold loopS
    rw [dif_pos h]
    obtain ⟨r', h'⟩ := h.choose_spec
    rw [h']
    have h1 := loopIter_mono (Nat.le_max_left n h.choose) D D (FLe.refl D) _ _ hn
    have h2 := loopIter_mono (Nat.le_max_right n h.choose) D D (FLe.refl D) _ _ h'
    rw [h1] at h2
    exact h2.symm

theorem callS_iff {F : Nat → Option AFn} {f : Nat} {args : List AV} {H : List Ent} {r : Out × List Ent} : callS E F f args H Y = some r ↔ ∃ n, callN E F n f args H Y = some r := by
  constructor
  · intro h
    unfold callS at h
    split at h
    · exact ⟨_, h⟩
    · cases h
  · rintro ⟨n, hn⟩
    have h : ∃ n r, callN E F n f args H Y = some r := ⟨n, r, hn⟩
    unfold callS
    rw [dif_pos h]
    obtain ⟨r', h'⟩ := h.choose_spec
    rw [h']
    have h1 := callN_mono (Nat.le_max_left n h.choose) _ _ _ _ _ _ (YLe.refl Y) hn
    have h2 := callN_mono (Nat.le_max_right n h.choose) _ _ _ _ _ _ (YLe.refl Y) h'
    rw [h1] at h2
    exact h2.symm

theorem loopS_app : LApp loopS loopIter := ⟨fun n m h => loopIter_mono h, fun D Dn hD st r h => by
  obtain ⟨k, hk⟩ := loopS_iff.1 h
  exact (loopIter_app k).2 D Dn hD st r hk⟩
theorem callS_app {F : Nat → Option AFn} : CApp (callS E F) (callN E F) := ⟨fun n m h => callN_mono h, fun f args H Y Yn r hY h => by
  obtain ⟨k, hk⟩ := callS_iff.1 h
  exact (callN_app k).2 f args H Y Yn r hY hk⟩

/-- A loop, by its first round. -/
theorem loopS_eq (D : DF) (st : St) : loopS D st = match D st with
    | some (.normal, st') => loopS D st'
    | r => r := by
  split
  · rename_i st' h
    apply Option.ext
    intro r
    rw [loopS_iff, loopS_iff]
    constructor
    · rintro ⟨n, hn⟩
      cases n with
      | zero => simp [loopIter] at hn
      | succ n => exact ⟨n, by simpa [loopIter, h] using hn⟩
    · rintro ⟨n, hn⟩
      exact ⟨n + 1, by simpa [loopIter, h] using hn⟩
  · rename_i hne
    apply Option.ext
    intro r
    rw [loopS_iff]
    constructor
    · rintro ⟨n, hn⟩
      cases n with
      | zero => simp [loopIter] at hn
      | succ n =>
        simp only [loopIter] at hn
        exact hn
    · intro h
      refine ⟨1, ?_⟩
      simp only [loopIter]
      exact h

/-- How a call ends, by how its body was left. -/
def wayOut (T : TT) (A : AFn) (b : Nat) : Option (Ex × St) → Option (Out × List Ent)
  | some (.normal, st) | some (.ret, st) => leave T A b st
  | some (.pan v, st) => if AV.under b v then some (.pan v, st.H.take b) else none
  | _ => none

/-- A call, by its body. -/
theorem callS_of {F : Nat → Option AFn} {f : Nat} {A : AFn} (hA : F f = some A) {args : List AV} {H : List Ent} {r : Out × List Ent}
    (h : wayOut E.T A H.length (den E (callS E F) Y loopS A.ac { tm := Slots.init 0 args, H := H, b := H.length }) = some r) : callS E F f args H Y = some r := by
  cases h1 : den E (callS E F) Y loopS A.ac { tm := Slots.init 0 args, H := H, b := H.length } with
  | none => simp [h1, wayOut] at h
  | some x =>
    obtain ⟨n, hn⟩ := (den_app callS_app (YApp.const Y) loopS_app A.ac).2 _ _ h1
    refine callS_iff.2 ⟨n + 1, ?_⟩
    simp only [callN, hA, hn]
    rw [h1] at h
    obtain ⟨ex, st⟩ := x
    cases ex <;> exact h

theorem callS_sound {P : Program} (hT : TOk P E.T) {F : Nat → Option AFn} (hF : FOk P F) (hmix : P.follows .mixedOrders = true) : CSound P E.G (callS E F) := by
  intro f args H Y o H' h
  obtain ⟨n, hn⟩ := callS_iff.1 h
  exact callN_sound hT hF hmix n f args H Y o H' hn

end
end Go.Abs
