/- Calls that are asked twice where an empty slice comes in. -/
import Derived.Test.YtlphdiccffnckaaLop
namespace Go.Abs

section
variable {H : List Ent} {t : Nat} {T : TT} {C : CF} {Y : List YF}
theorem cln_empty {g z : Nat} {f : Bool} {caps : List AV} : aCallFn C Y .cln H (.fn g caps) [.sl f z []] =
    if AV.pureL caps = true then if (askEmpty C g (.nsl true z :: caps) && askEmpty C g (.nsl false z :: caps)) = true then some (.val (.sl false z []) H) else none else none := rfl
@[go_sem] theorem bareCall_eq {g : Nat} {vs : List AV} : bareCall C g vs H = match C g vs [] [] with
    | some (.ret v, H1) => match bareRet H1 v with
      | some v' => some (.val v' H)
      | none => none
    | some (.pan v, _) => if AV.pure v = true then some (.pan v H) else none
    | none => none := rfl
@[go_sem] theorem cln_sc {g : Nat} {v : Value} {caps : List AV} : aCallFn C Y .cln H (.fn g caps) [.sc v] = if AV.pureL caps = true then bareCall C g (.sc v :: caps) H else none := rfl
@[go_sem] theorem fl_non_own : (Fl.non == Fl.own) = false := rfl
@[go_sem] theorem fl_own_own : (Fl.own == Fl.own) = true := rfl
theorem ask_true {g : Nat} {vs : List AV} {v v' : AV} {H1 : List Ent} (h : C g vs [] [] = some (.ret v, H1)) (h2 : bareRet H1 v = some v') (h3 : emptySl v' = true) : askEmpty C g vs = true := by
  simp only [askEmpty, h, h2, h3]
section app
variable {B : List Ent}
@[go_sem] theorem app_get0 : (H ++ B)[H.length]? = B[0]? := by rw [List.getElem?_append_right (Nat.le_refl _), Nat.sub_self]
@[go_sem] theorem app_getk (k : Nat) : (H ++ B)[H.length + k]? = B[k]? := by rw [List.getElem?_append_right (Nat.le_add_right _ _), Nat.add_sub_cancel_left]
@[go_sem] theorem app_set0 (e : Ent) : (H ++ B).set H.length e = H ++ B.set 0 e := by rw [List.set_append_right _ _ (Nat.le_refl _), Nat.sub_self]
@[go_sem] theorem app_setk (e : Ent) (k : Nat) : (H ++ B).set (H.length + k) e = H ++ B.set k e := by rw [List.set_append_right _ _ (Nat.le_add_right _ _), Nat.add_sub_cancel_left]
@[go_sem] theorem app_take0 : (H ++ B).take H.length = H := by rw [List.take_append_of_le_length (Nat.le_refl _), List.take_length]
@[go_sem] theorem app_takek (k : Nat) : (H ++ B).take (H.length + k) = H ++ B.take k := by rw [List.take_append, List.take_of_length_le (Nat.le_add_right _ _), Nat.add_sub_cancel_left]
@[go_sem] theorem app_drop0 : (H ++ B).drop H.length = B := by rw [List.drop_append_of_le_length (Nat.le_refl _), List.drop_length, List.nil_append]
@[go_sem] theorem add_lt_no (n k : Nat) : (n + k < n) = False := eq_false (by omega)
@[go_sem] theorem ent_under_own {n vr z : Nat} {xs : List (List AV)} : Ent.under n (.own vr z xs) = AV.underLL n xs := rfl
@[go_sem] theorem ent_under_box {n : Nat} {cs : List AV} : Ent.under n (.box cs) = AV.underL n cs := rfl
@[go_sem] theorem underLL_nil {n : Nat} : AV.underLL n [] = true := rfl
@[go_sem] theorem underLL_cons {n : Nat} {x : List AV} {xs : List (List AV)} : AV.underLL n (x :: xs) = (AV.underL n x && AV.underLL n xs) := rfl
theorem underLL_map {α : Type} {n : Nat} {f : α → List AV} (h : ∀ a, AV.pureL (f a) = true) (l : List α) : AV.underLL n (l.map f) = true := pureLL_under n _ (pureLL_map h l)
theorem underLL_maps {α : Type} {n : Nat} {f : α → AV} (h : ∀ a, AV.pure (f a) = true) (l : List α) : AV.underLL n (l.map fun a => [f a]) = true := underLL_map (fun a => by simp [AV.pureL, h]) l
@[go_sem] theorem ghost_freeze {s : Nat} {st : St} : ghost (.freeze s) st = match st.tm.get s with
    | .os k off len vr =>
      if st.b ≤ k then
        match snap st.H (.os k off len vr) with
        | some (p, z, xs) => if p = true then some { st with tm := (s, .sl false z xs) :: st.tm, H := st.H.set k .dead } else none
        | none => none
      else none
    | _ => none := rfl
end app
/-- A clone, by value: from what it answers for nil, for an empty slice that is not nil, and for the others. -/
theorem clone_by {g z : Nat} (h1 : ∀ n, ∃ v H1 v', C g [.nsl n z] [] [] = some (.ret v, H1) ∧ bareRet H1 v = some v' ∧ emptySl v' = true)
    {xs : List (List AV)} (h2 : xs ≠ [] → ∃ v H1, C g [.sl false z xs] [] [] = some (.ret v, H1) ∧ bareRet H1 v = some (.sl false z xs)) (H : List Ent) (Y : List YF) :
    aCallFn C Y .cln H (.fn g []) [.sl false z xs] = some (.val (.sl false z xs) H) := by
  cases xs with
  | nil =>
    obtain ⟨v1, H1, v1', a1, a2, a3⟩ := h1 true
    obtain ⟨v2, H2, v2', b1, b2, b3⟩ := h1 false
    rw [cln_empty]
    simp only [ask_true a1 a2 a3, ask_true b1 b2 b3]
    rfl
  | cons x xs =>
    obtain ⟨v, H1, q1, q2⟩ := h2 (by simp)
    rw [call_cln_cons]
    simp only [AV.pureL, if_true, bareCall_eq, q1, q2]
end
end Go.Abs
