/- The tables of a program: its types, its functions with the translator's words. -/
import Derived.Test.YtlphdiccffnckaaLim
namespace Go.Abs

/-- The words for one function: what is said of operations; what is said ahead of regions; whether its memory outlives it. -/
structure Words where
  fl : List (Nat × Nat × Fl) := []
  gh : List (Nat × Ghost) := []
  adopt : Bool := false

def flagAt : List (Nat × Nat × Fl) → Nat → Nat → Fl
  | [], _, _ => .non
  | (r, i, f) :: l, id, k => bif Nat.beq r id && Nat.beq i k then f else flagAt l id k
def ghostAt : List (Nat × Ghost) → Nat → AC → AC
  | [], _, c => c
  | (r, g) :: l, id, c => bif Nat.beq r id then .ghost g (ghostAt l id c) else ghostAt l id c

def guardSlot (ops : List Oper) (o : Oper) : Option (Nat × Bool) :=
  match o.guard with
  | none => none
  | some (j, w) => match (ops[j]?).bind (·.dst) with
    | some d => some (d, w)
    | none => none

def annOps (fl : List (Nat × Nat × Fl)) (id : Nat) (all : List Oper) : Nat → List Oper → List AOp
  | _, [] => []
  | i, o :: os => { o := o, f := flagAt fl id i, g := guardSlot all o } :: annOps fl id all (i + 1) os

/-- Code with the translator's words. -/
def annot (h : Words) : Code → AC
  | .skip => .skip
  | .region id ops d => ghostAt h.gh id (.region id (annOps h.fl id ops.toList 0 ops.toList) d)
  | .seq a b => .seq (annot h a) (annot h b)
  | .cond c a b => .cond c (annot h a) (annot h b)
  | .block id a => .block id (annot h a)
  | .loop a => .loop (annot h a)
  | .rangeFunc f ps a b => .rangeFunc f ps.toList (annot h a) (annot h b)
  | .exit id => .exit id
  | .ret => .ret
  | _ => .skip

def plainCode : Code → Bool
  | .skip | .region .. | .exit _ | .ret => true
  | .seq a b => plainCode a && plainCode b
  | .cond _ a b => plainCode a && plainCode b
  | .block _ a => plainCode a
  | .loop a => plainCode a
  | .rangeFunc _ _ a b => plainCode a && plainCode b
  | _ => false

theorem erase_ghostAt (c : AC) (id : Nat) : ∀ (l : List (Nat × Ghost)), (ghostAt l id c).erase = c.erase
  | [] => rfl
  | (r, g) :: l => by
    simp only [ghostAt]
    cases Nat.beq r id <;> simp [AC.erase, erase_ghostAt c id l]

theorem annOps_o (fl : List (Nat × Nat × Fl)) (id : Nat) (all : List Oper) : ∀ (os : List Oper) (i : Nat), (annOps fl id all i os).map (·.o) = os
  | [], _ => rfl
  | o :: os, i => by simp [annOps, annOps_o fl id all os (i + 1)]

theorem erase_annot (h : Words) : ∀ (c : Code), plainCode c = true → (annot h c).erase = c
  | .skip, _ => rfl
  | .region id ops d, _ => by
    obtain ⟨l⟩ := ops
    simp [annot, erase_ghostAt, AC.erase, annOps_o]
  | .seq a b, hp => by
    simp only [plainCode, Bool.and_eq_true] at hp
    simp [annot, AC.erase, erase_annot h a hp.1, erase_annot h b hp.2]
  | .cond c a b, hp => by
    simp only [plainCode, Bool.and_eq_true] at hp
    simp [annot, AC.erase, erase_annot h a hp.1, erase_annot h b hp.2]
  | .block id a, hp => by simp [annot, AC.erase, erase_annot h a hp]
  | .loop a, hp => by simp [annot, AC.erase, erase_annot h a hp]
  | .rangeFunc f ps a b, hp => by
    simp only [plainCode, Bool.and_eq_true] at hp
    obtain ⟨l⟩ := ps
    simp [annot, AC.erase, erase_annot h a hp.1, erase_annot h b hp.2]
  | .exit id, _ => rfl
  | .ret, _ => rfl
  | .scope _, hp => by cases hp
  | .label _, hp => by cases hp
  | .goto _, hp => by cases hp
  | .refuse _, hp => by cases hp

/-- A function with its words. -/
def mkFn (h : Words) (fn : Func) (c : Code) : AFn := { ac := annot h c, ntmps := fn.ntmps, results := fn.results.toList, adopt := h.adopt }

def wordsAt : List (Nat × Words) → Nat → Words
  | [], _ => {}
  | (g, w) :: l, f => bif Nat.beq g f then w else wordsAt l f

/-- The program's functions with their words. -/
def fnOf (P : Program) (hs : List (Nat × Words)) (f : Nat) : Option AFn :=
  match P.funcs[f]? with
  | none => none
  | some fn => match fn.body with
    | none => none
    | some c => bif !(fn.name == "runtime.NumGoroutine") && (plainCode c && (annot (wordsAt hs f) c).fine fn.ntmps) then some (mkFn (wordsAt hs f) fn c) else none

theorem fnOf_ok (P : Program) (hs : List (Nat × Words)) : FOk P (fnOf P hs) := ⟨fun f A h => by
  unfold fnOf at h
  split at h
  · cases h
  · rename_i fn hf
    split at h
    · cases h
    · rename_i c hc
      cases hcond : (!(fn.name == "runtime.NumGoroutine") && (plainCode c && (annot (wordsAt hs f) c).fine fn.ntmps)) with
      | false => simp [hcond] at h
      | true =>
        simp only [hcond, cond_true, Option.some.injEq] at h
        subst h
        simp only [Bool.and_eq_true, Bool.not_eq_true'] at hcond
        exact ⟨fn, hf, hcond.1, by simp only [mkFn]; rw [erase_annot _ _ hcond.2.1]; exact hc, Nat.le_refl _, by simp [mkFn], hcond.2.2⟩⟩

/-- The program's types. -/
def ttOf (P : Program) (eqs : List (Nat × List Bool)) : TT where
  size t := match P.info? t, P.underlying t with
    | some i, some d => some (i.size, aggD d)
    | _, _ => none
  zero t := match P.info? t with
    | some i => match i.zero with
      | some v => bif v.cells.toList.all (·.oneCell') then some v.cells.toList else none
      | none => none
    | none => none
  elem t := match P.underlying t with
    | some (.slice e) => match P.info? e with
      | some i => match i.zero with
        | some v => bif Nat.beq v.cells.size i.size && v.cells.toList.all (·.oneCell') then some (i.size, i.bytes) else none
        | none => none
      | none => none
    | _ => none
  ety t := match P.underlying t with
    | some (.slice e) => some e
    | _ => none
  arr t := match P.underlying t with
    | some (.array n e) => match P.info? e, P.underlying e with
      | some i, some d => some (n, i.size, aggD d)
      | _, _ => none
    | _ => none
  flds t := match P.underlying t with
    | some (.struct fs) => mapO (fun fl => match P.info? fl.type, P.underlying fl.type with
      | some i, some d => if 0 < i.size then some (fl.offset, i.size, aggD d) else none
      | _, _ => none) fs.toList
    | _ => none
  eqc t := eqs.lookup t
  int t := match P.underlying t with
    | some (.int k) => some k
    | _ => none
  bool t := match P.underlying t with
    | some .bool => true
    | _ => false
  ifc t := match P.underlying t with
    | some (.interface _) => true
    | _ => false

/-- The types of these numbers are compared cell by cell. -/
def EqOk (P : Program) (eqs : List (Nat × List Bool)) : Prop := ∀ t k, eqs.lookup t = some k → ∀ (cs ds : List Value) (e : Bool) (w : World), shapeOk k (cs.map .sc) = true → aggEq (cs.map .sc) (ds.map .sc) = some e →
    P.eqGuardType P.depth t = false ∧ (Op.equal t (.agg cs.toArray) (.agg ds.toArray)).run P w = .ok e w

theorem ttOf_ok (P : Program) (eqs : List (Nat × List Bool)) (he : EqOk P eqs) : TOk P (ttOf P eqs) where
  size t n g h := by
    simp only [ttOf] at h
    split at h
    · cases h; exact ⟨_, _, by assumption, rfl, by assumption, rfl⟩
    · cases h
  zero t zs h := by
    simp only [ttOf] at h
    split at h
    · rename_i i hi
      split at h
      · rename_i v hv
        cases hall : v.cells.toList.all (·.oneCell') with
        | false => rw [hall] at h; cases h
        | true =>
          rw [hall] at h
          cases h
          exact ⟨i, v, hi, hv, rfl, List.all_eq_true.1 hall⟩
      · cases h
    · cases h
  elem t z eb h := by
    simp only [ttOf] at h
    split at h
    · rename_i e hu
      split at h
      · rename_i i hi
        split at h
        · rename_i v hv
          cases hall : (Nat.beq v.cells.size i.size && v.cells.toList.all (·.oneCell')) with
          | false => rw [hall] at h; cases h
          | true =>
            rw [hall] at h
            cases h
            simp only [Bool.and_eq_true] at hall
            exact ⟨e, i, v, hu, hi, rfl, rfl, hv, Nat.eq_of_beq_eq_true hall.1, List.all_eq_true.1 hall.2⟩
        · cases h
      · cases h
    · cases h
  ety t e h := by
    simp only [ttOf] at h
    split at h
    · cases h; assumption
    · cases h
  arr t n z g h := by
    simp only [ttOf] at h
    split at h
    · split at h
      · cases h; exact ⟨_, _, _, by assumption, by assumption, rfl, by assumption, rfl⟩
      · cases h
    · cases h
  fld t l h := by
    simp only [ttOf] at h
    split at h
    · rename_i fs hu
      obtain ⟨hl, hg⟩ := mapO_get h
      refine ⟨fs, hu, by simpa using hl.symm, fun f off n g hf => ?_⟩
      obtain ⟨fl, hfl, hx⟩ := hg f _ hf
      split at hx
      · split at hx
        · cases hx
          exact ⟨fl, _, _, by simpa using hfl, rfl, by assumption, rfl, by assumption, by assumption, rfl⟩
        · cases hx
      · cases hx
    · cases h
  eqc t cs ds e w h h' := by
    cases hk : eqs.lookup t with
    | none => simp [ttOf, eqShape, hk] at h
    | some k => exact he t k hk cs ds e w (by simpa [ttOf, eqShape, hk] using h) h'
  int t k h := by
    simp only [ttOf] at h
    split at h
    · cases h; assumption
    · cases h
  bool t h := by
    simp only [ttOf] at h
    split at h
    · assumption
    · cases h
  ifc t h := by
    simp only [ttOf] at h
    split at h
    · exact ⟨_, by assumption⟩
    · cases h

end Go.Abs
