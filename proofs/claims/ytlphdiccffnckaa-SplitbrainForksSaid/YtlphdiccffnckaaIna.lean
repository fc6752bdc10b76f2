/- Layers 46 and 54: lineages. -/
import Derived.Test.YtlphdiccffnckaaImq
namespace Go.Proofs.Ytlphdiccffnckaa
open Go Go.Abs
theorem f13_eq : fs 13 = some (mkFn {} Go.Proofs.Try.f13 (bodyOf Go.Proofs.Try.f13)) := by kernel_rfl
theorem f60_eq : fs 60 = some (mkFn {} Go.Proofs.Try.f60 (bodyOf Go.Proofs.Try.f60)) := by kernel_rfl
theorem f61_eq : fs 61 = some (mkFn {} Go.Proofs.Try.f61 (bodyOf Go.Proofs.Try.f61)) := by kernel_rfl
theorem f62_eq : fs 62 = some (mkFn {} Go.Proofs.Try.f62 (bodyOf Go.Proofs.Try.f62)) := by kernel_rfl
theorem f63_eq : fs 63 = some (mkFn {} Go.Proofs.Try.f63 (bodyOf Go.Proofs.Try.f63)) := by kernel_rfl
theorem f146_eq : fs 146 = some (mkFn {} Go.Proofs.Try.f146 (bodyOf Go.Proofs.Try.f146)) := by kernel_rfl
theorem f149_eq : fs 149 = some (mkFn {} Go.Proofs.Try.f149 (bodyOf Go.Proofs.Try.f149)) := by kernel_rfl
theorem f150_eq : fs 150 = some (mkFn {} Go.Proofs.Try.f150 (bodyOf Go.Proofs.Try.f150)) := by kernel_rfl
theorem f151_eq : fs 151 = some (mkFn {} Go.Proofs.Try.f151 (bodyOf Go.Proofs.Try.f151)) := by kernel_rfl
theorem f152_eq : fs 152 = some (mkFn {} Go.Proofs.Try.f152 (bodyOf Go.Proofs.Try.f152)) := by kernel_rfl
theorem f207_eq : fs 207 = some (mkFn {} Go.Proofs.Try.f207 (bodyOf Go.Proofs.Try.f207)) := by kernel_rfl
/-- A span of a lineage: epoch, from, to. -/
structure Sp where
  e : Int
  f : Int
  t : Int
  deriving DecidableEq
@[go_sem] def spRow (x : Sp) : List AV := [.sc (.int .i64 x.e), .sc (.int .i64 x.f), .sc (.int .i64 x.t)]
@[go_sem] def zSps (l : List Sp) : AV := .sl false 3 (l.map fun x => [.sc (.int .i64 x.e), .sc (.int .i64 x.f), .sc (.int .i64 x.t)])
def spNext (p x : Sp) : Prop := x.f = p.t + 1 ∧ x.f ≤ x.t ∧ x.t ≤ 1073741824 ∧ 1 ≤ x.e ∧ x.e ≤ 1073741824 ∧ p.e < x.e
instance (p x : Sp) : Decidable (spNext p x) := by unfold spNext; infer_instance
def spOk : Sp → List Sp → Bool
  | _, [] => true
  | p, x :: l => if spNext p x then spOk x l else false
def sp0 : Sp := ⟨0, 0, 0⟩
def spF (_ : Nat) (p x : Sp) : Sp ⊕ Unit := if spNext p x then .inl x else .inr ()
theorem foldE_sp : ∀ (l : List Sp) (i : Nat) (p : Sp), foldE spF i p l = if spOk p l = true then .inl (l.getLast?.getD p) else .inr ()
  | [], _, _ => rfl
  | x :: l, i, p => by
    simp only [foldE, spF, spOk]
    by_cases h : spNext p x
    · simp only [h, if_true]
      rw [foldE_sp l (i + 1) x]
      cases l with
      | nil => rfl
      | cons y l => simp [List.getLast?_cons_cons]; rfl
    · simp [h]
def spGood (p : Sp) : Prop := 0 ≤ p.t ∧ p.t ≤ 1073741824 ∧ 0 ≤ p.e ∧ p.e ≤ 1073741824
theorem spNext_good {p x : Sp} (hp : spGood p) (h : spNext p x) : spGood x := by
  unfold spGood spNext at *
  omega
theorem f207_spec (n low : Int) (Y : List YF) : callS ev fs 207 [zI n, zI low] [] Y = some (.ret (zB (decide (low ≤ n ∧ n ≤ 1073741824))), []) := by
  refine callS_by f207_eq rfl ?_
  simp only [bodyOf, Go.Proofs.Try.f207, Option.getD_some]
  by_cases h : low ≤ n
  · simp [go_sem, h]
  · simp [go_sem, h]
theorem f146_spec (l : List Sp) (hl : l.length < 1000000000) (Y : List YF) : callS ev fs 146 [zSps l] [] Y = some (.ret (zB (spOk sp0 l)), []) := by
  refine callS_by f146_eq rfl ?_
  simp only [bodyOf, Go.Proofs.Try.f146, Option.getD_some]
  obtain ⟨R, hR⟩ := fold_loop (E := ev) (C := callS ev fs) (Y := Y) (w := {}) (a := (loopsOf (bodyOf Go.Proofs.Try.f146))[0]?.getD .skip) (b := 0) 
    l spF sp0 (ex := fun _ => .ret)
    (fun i p st => spGood p ∧ st.H[0]? = some (.box (spRow p)) ∧ LiveT [(3, .bp 0 0), (7, zSps l), (8, zI l.length), (9, zI i)] 0 st)
    (fun p => LiveT [] 0)
    (fun _ st => st.tm.get 2 = zB false ∧ st.b = 0)
    (fun i p st hi h => by
      obtain ⟨hp, hH, h⟩ := h
      obtain ⟨tm, H, b⟩ := st
      simp only [bodyOf, Go.Proofs.Try.f146, Option.getD_some, loopsOf, rangesOf, List.nil_append, List.append_nil, List.cons_append, List.getElem?_cons_zero, List.getElem?_cons_succ]
      simp only [go_sem] at h
      obtain ⟨h3, h7, h8, h9, rfl⟩ := h
      have h207 := f207_spec l[i].e 1 []
      have hb0 := fun B => get_app (B := B) hH
      have hb1 := fun B hk => getE (hb0 B) hk
      have hKl := (List.getElem?_eq_some_iff.1 hH).1
      have hlast : ∀ e, (H ++ [e])[H.length]? = some e := fun e => by simp
      have hw := wrap64 (x := p.t + 1) (by unfold spGood at hp; omega)
      simp only [go_sem] at h207 hH hb0 hb1
      by_cases c1 : ¬ l[i].f = p.t + 1
      · have hn : ¬ spNext p l[i] := fun h => c1 h.1
        simp [go_sem, h3, h7, h8, h9, hi, hb0, hb1, hw, spF, hn, hlast, show i < 1000000000 by omega, h207, c1]
      replace c1 : l[i].f = p.t + 1 := Decidable.not_not.1 c1
      by_cases c2 : l[i].t < p.t + 1
      · have hn : ¬ spNext p l[i] := fun h => by have := h.2.1; omega
        simp [go_sem, h3, h7, h8, h9, hi, hb0, hb1, hw, spF, hn, hlast, show i < 1000000000 by omega, h207, c2, c1]
      by_cases c3 : 1073741824 < l[i].t
      · have hn : ¬ spNext p l[i] := fun h => by have := h.2.2.1; omega
        simp [go_sem, h3, h7, h8, h9, hi, hb0, hb1, hw, spF, hn, hlast, show i < 1000000000 by omega, h207, c3, c1, c2]
      by_cases c4 : ¬ 1 ≤ l[i].e
      · have hn : ¬ spNext p l[i] := fun h => c4 h.2.2.2.1
        simp [go_sem, h3, h7, h8, h9, hi, hb0, hb1, hw, spF, hn, hlast, show i < 1000000000 by omega, h207, c4, c1, c2, c3]
      replace c4 : 1 ≤ l[i].e := Decidable.not_not.1 c4
      by_cases c5 : ¬ l[i].e ≤ 1073741824
      · have hn : ¬ spNext p l[i] := fun h => c5 h.2.2.2.2.1
        simp [go_sem, h3, h7, h8, h9, hi, hb0, hb1, hw, spF, hn, hlast, show i < 1000000000 by omega, h207, c5, c1, c2, c3, c4]
      replace c5 : l[i].e ≤ 1073741824 := Decidable.not_not.1 c5
      by_cases c6 : l[i].e ≤ p.e
      · have hn : ¬ spNext p l[i] := fun h => by have := h.2.2.2.2.2; omega
        simp [go_sem, h3, h7, h8, h9, hi, hb0, hb1, hw, spF, hn, hlast, show i < 1000000000 by omega, h207, c6, c1, c2, c3, c4, c5]
      have hn : spNext p l[i] := ⟨c1, by omega, by omega, c4, c5, by omega⟩
      have hg := spNext_good hp hn
      simp [go_sem, h3, h7, h8, h9, hi, hb0, hb1, hw, spF, hn, hlast, show i < 1000000000 by omega, h207, hg, hKl, c1, c2, c3, c4, c5, c6])
    (fun p st h => by
      obtain ⟨hp, hH, h⟩ := h
      obtain ⟨tm, H, b⟩ := st
      simp only [bodyOf, Go.Proofs.Try.f146, Option.getD_some, loopsOf, rangesOf, List.nil_append, List.append_nil, List.cons_append, List.getElem?_cons_zero, List.getElem?_cons_succ]
      simp only [go_sem] at h
      obtain ⟨h3, h7, h8, h9, rfl⟩ := h
      simp [go_sem, h3, h7, h8, h9])
    (fun _ h => by cases h)
  simp only [bodyOf, Go.Proofs.Try.f146, Option.getD_some, loopsOf, rangesOf, List.nil_append, List.append_nil, List.cons_append, List.getElem?_cons_zero, List.getElem?_cons_succ] at hR
  simp only [foldE_sp] at hR
  cases hs : spOk sp0 l
  · simp [hs, go_sem] at hR
    simp [sp0, spGood] at hR
    simp [go_sem, hR]
  · simp [hs, go_sem] at hR
    simp [sp0, spGood] at hR
    simp [go_sem, hR]

section
variable {H : List Ent} {b t : Nat}
@[go_sem] theorem opD_min {E : Env} {C : CF} {Y : List YF} {f : Fl} {tm : Slots} (x y : Operand) (ts : Array TypeId) : opD E C Y f (.call { callee := .builtin .min, args := #[x, y], argTypes := ts }) tm b H = Go.Abs.ok H (aMin2 (aval E.G tm x) (aval E.G tm y)) := rfl
@[go_sem] theorem min2 {k : IntKind} {x y : Int} : aMin2 (.sc (.int k x)) (.sc (.int k y)) = some (.sc (.int k (if y < x then y else x))) := by simp [aMin2]
end
theorem min_len (a b : List Sp) : (if b.length < a.length then (b.length : Int) else a.length) = ((min a.length b.length : Nat) : Int) := by split <;> omega
def minI (x y : Int) : Int := if y < x then y else x
def ancF (_ : Nat) (r : Int × Int) (p : Sp × Sp) : (Int × Int) ⊕ (Int × Int) :=
  if p.1.e = p.2.e then (if p.1.t = p.2.t then .inl (minI p.1.t p.2.t, p.1.e) else .inr (minI p.1.t p.2.t, p.1.e)) else .inr r
def anc (a b : List Sp) : Int × Int := match foldE ancF 0 (0, 0) (a.zip b) with
  | .inl r => r
  | .inr r => r
/-- The common ancestor, of wrong lineages too. -/
def ancestor (a b : List Sp) : Int × Int := if spOk sp0 a = true then (if spOk sp0 b = true then anc a b else (0, 0)) else (0, 0)

theorem f60_spec (a b : List Sp) (ha : a.length < 1000000000) (hb : b.length < 1000000000) (Y : List YF) :
    callS ev fs 60 [zSps a, zSps b] [] Y = some (.ret (.tup [zI (ancestor a b).1, zI (ancestor a b).2]), []) := by
  refine callS_by f60_eq rfl ?_
  simp only [bodyOf, Go.Proofs.Try.f60, Option.getD_some]
  have h1 := f146_spec a ha []
  have h2 := f146_spec b hb []
  simp only [go_sem] at h1 h2
  cases ca : spOk sp0 a
  · simp [go_sem, h1, ca, ancestor]
  cases cb : spOk sp0 b
  · simp [go_sem, h1, h2, ca, cb, ancestor]
  obtain ⟨R, hR⟩ := fold_loop (E := ev) (C := callS ev fs) (Y := Y) (w := {}) (a := (loopsOf (bodyOf Go.Proofs.Try.f60))[0]?.getD .skip) (b := 0) 
    (a.zip b) ancF ((0, 0) : Int × Int) (ex := fun _ => .exit 0)
    (fun i r st => LiveT [(0, zSps a), (1, zSps b), (6, zI r.1), (7, zI r.2), (8, zI i)] 0 st)
    (fun r st => LiveT [(6, zI r.1), (7, zI r.2)] 0 st)
    (fun r st => LiveT [(6, zI r.1), (7, zI r.2)] 0 st)
    (fun i r st hi h => by
      have hz : i < a.length ∧ i < b.length := by simpa [List.length_zip, Nat.lt_min] using hi
      obtain ⟨hia, hib⟩ := hz
      simp only [List.getElem_zip]
      obtain ⟨tm, H, b⟩ := st
      simp only [bodyOf, Go.Proofs.Try.f60, Option.getD_some, loopsOf, rangesOf, List.nil_append, List.append_nil, List.cons_append, List.getElem?_cons_zero, List.getElem?_cons_succ]
      simp only [go_sem] at h
      obtain ⟨h0, h1, h6, h7, h8, rfl⟩ := h
      by_cases c1 : ¬ a[i].e = b[i].e
      · simp [go_sem, h0, h1, h6, h7, h8, hia, hib, ancF, min_len, Nat.lt_min.2 ⟨hia, hib⟩, c1, show i < 1000000000 by omega]
      replace c1 := Decidable.not_not.1 c1
      by_cases c2 : a[i].t = b[i].t
      · simp [go_sem, h0, h1, h6, h7, h8, hia, hib, ancF, min_len, Nat.lt_min.2 ⟨hia, hib⟩, c1, c2, minI, show i < 1000000000 by omega]
      · simp [go_sem, h0, h1, h6, h7, h8, hia, hib, ancF, min_len, Nat.lt_min.2 ⟨hia, hib⟩, c1, c2, minI, show i < 1000000000 by omega])
    (fun r st h => by
      obtain ⟨tm, H, b⟩ := st
      simp only [bodyOf, Go.Proofs.Try.f60, Option.getD_some, loopsOf, rangesOf, List.nil_append, List.append_nil, List.cons_append, List.getElem?_cons_zero, List.getElem?_cons_succ]
      simp only [go_sem] at h
      obtain ⟨h0, h1, h6, h7, h8, rfl⟩ := h
      simp only [List.length_zip] at h8
      simp [go_sem, h0, h1, h6, h7, h8, min_len])
    (fun _ h => by cases h)
  simp only [bodyOf, Go.Proofs.Try.f60, Option.getD_some, loopsOf, rangesOf, List.nil_append, List.append_nil, List.cons_append, List.getElem?_cons_zero, List.getElem?_cons_succ] at hR
  have hm : ancestor a b = match foldE ancF 0 (0, 0) (a.zip b) with
    | .inl r => r
    | .inr r => r := by simp [ancestor, ca, cb, anc]
  rw [hm]
  cases hr : foldE ancF 0 (0, 0) (a.zip b) with
  | inl r =>
    simp only [hr] at hR
    simp [go_sem] at hR
    simp [go_sem, h1, h2, ca, cb, hR]
  | inr r =>
    simp only [hr] at hR
    simp [go_sem] at hR
    simp [go_sem, h1, h2, ca, cb, hR]

theorem anc_self : ∀ (l : List Sp) (i : Nat) (r : Int × Int), foldE ancF i r (l.zip l) = .inl ((l.getLast?.map fun x => (x.t, x.e)).getD r)
  | [], _, _ => rfl
  | x :: l, i, r => by
    simp only [List.zip_cons_cons, foldE, ancF, if_true]
    rw [anc_self l]
    cases l with
    | nil => simp [minI]
    | cons y l =>
      rw [List.getLast?_cons_cons]
      cases h : (y :: l).getLast? with
      | none => simp at h
      | some z => rfl
def endT (l : List Sp) : Int := (l.getLast?.getD sp0).t
theorem ancestor_self (l : List Sp) : (ancestor l l).1 = if spOk sp0 l = true then endT l else 0 := by
  unfold ancestor anc
  rw [anc_self]
  cases spOk sp0 l
  · rfl
  · cases h : l.getLast? with
    | none => simp [endT, h, sp0]
    | some z => simp [endT, h]
theorem spOk_last : ∀ (l : List Sp) (p : Sp), spGood p → spOk p l = true → l ≠ [] → 0 < (l.getLast?.getD sp0).t
  | [], _, _, _, h => absurd rfl h
  | x :: l, p, hp, h, _ => by
    simp only [spOk] at h
    by_cases hn : spNext p x
    · simp only [hn, if_true] at h
      have hx := spNext_good hp hn
      cases l with
      | nil =>
        simp only [List.getLast?_singleton, Option.getD_some]
        unfold spNext spGood at *
        omega
      | cons y l =>
        rw [List.getLast?_cons_cons]
        exact spOk_last (y :: l) x hx h (by simp)
    · simp [hn] at h
theorem sp0_good : spGood sp0 := by simp [spGood, sp0]

theorem f149_spec (l : List Sp) (hl : l.length < 1000000000) (Y : List YF) :
    callS ev fs 149 [zSps l] [] Y = some (.ret (.tup [zI (if spOk sp0 l = true then endT l else 0), zB (spOk sp0 l)]), []) := by
  refine callS_by f149_eq rfl ?_
  simp only [bodyOf, Go.Proofs.Try.f149, Option.getD_some]
  have h1 := f60_spec l l hl hl []
  rw [ancestor_self] at h1
  simp only [go_sem] at h1
  by_cases h0 : l = []
  · subst h0
    simp [go_sem] at h1
    simp [go_sem, h1, spOk]
  have h0' : ¬ l.length = 0 := by simpa using h0
  cases ho : spOk sp0 l
  · simp [ho] at h1
    simp [go_sem, h1, h0, h0', ho]
  · simp [ho] at h1
    have := spOk_last l sp0 sp0_good ho h0
    simp [go_sem, h1, h0, h0', ho]
    exact this

def fork (a b : List Sp) : Int × Bool := if spOk sp0 a = true then (if spOk sp0 b = true then ((anc a b).1, decide ((anc a b).1 < endT a ∧ (anc a b).1 < endT b)) else (0, false)) else (0, false)

theorem f62_spec (a b : List Sp) (ha : a.length < 1000000000) (hb : b.length < 1000000000) (Y : List YF) :
    callS ev fs 62 [zSps a, zSps b] [] Y = some (.ret (.tup [zI (fork a b).1, zB (fork a b).2]), []) := by
  refine callS_by f62_eq rfl ?_
  simp only [bodyOf, Go.Proofs.Try.f62, Option.getD_some]
  have h1 := f149_spec a ha []
  have h2 := f149_spec b hb []
  have h3 := f60_spec a b ha hb []
  simp only [go_sem] at h1 h2 h3
  cases ca : spOk sp0 a
  · simp [ca] at h1
    simp [go_sem, h1, h2, ca, fork]
  cases cb : spOk sp0 b
  · simp [ca, cb] at h1 h2
    simp [go_sem, h1, h2, ca, cb, fork]
  simp [ca, cb, ancestor] at h1 h2 h3
  by_cases h4 : (anc a b).1 < endT a
  · simp [go_sem, h1, h2, h3, ca, cb, fork, h4]
  · simp [go_sem, h1, h2, h3, ca, cb, fork, h4]
end Go.Proofs.Ytlphdiccffnckaa
