/- Texts put together: Ion, Iop. -/
import Derived.Test.YtlphdiccffnckaaPao
import Derived.Test.YtlphdiccffnckaaPae

/- Layer 51: sites, and their errors. -/
namespace Go.Proofs.Ytlphdiccffnckaa
open Go Go.Abs
theorem f78_eq : fs 78 = some (mkFn {} Go.Proofs.Try.f78 (bodyOf Go.Proofs.Try.f78)) := by kernel_rfl
theorem f122_eq : fs 122 = some (mkFn {} Go.Proofs.Try.f122 (bodyOf Go.Proofs.Try.f122)) := by kernel_rfl
theorem f125_eq : fs 125 = some (mkFn {} Go.Proofs.Try.f125 (bodyOf Go.Proofs.Try.f125)) := by kernel_rfl
theorem f128_eq : fs 128 = some (mkFn {} Go.Proofs.Try.f128 (bodyOf Go.Proofs.Try.f128)) := by kernel_rfl
theorem f170_eq : fs 170 = some (mkFn {} Go.Proofs.Try.f170 (bodyOf Go.Proofs.Try.f170)) := by kernel_rfl
theorem f171_eq : fs 171 = some (mkFn {} Go.Proofs.Try.f171 (bodyOf Go.Proofs.Try.f171)) := by kernel_rfl
theorem f210_eq : fs 210 = some (mkFn {} Go.Proofs.Try.f210 (bodyOf Go.Proofs.Try.f210)) := by kernel_rfl
theorem f234_eq : fs 234 = some (mkFn {} Go.Proofs.Try.f234 (bodyOf Go.Proofs.Try.f234)) := by kernel_rfl
theorem f235_eq : fs 235 = some (mkFn {} Go.Proofs.Try.f235 (bodyOf Go.Proofs.Try.f235)) := by kernel_rfl
theorem f236_eq : fs 236 = some (mkFn {} Go.Proofs.Try.f236 (bodyOf Go.Proofs.Try.f236)) := by kernel_rfl
theorem f237_eq : fs 237 = some (mkFn {} Go.Proofs.Try.f237 (bodyOf Go.Proofs.Try.f237)) := by kernel_rfl

@[go_sem] theorem fieldVal_agg {T : TT} {t f : Nat} {cs : List AV} : aFieldVal T t f (.agg cs) = match T.fld t f with
    | some (off, n, g) => Go.Abs.valOf n g (cs.drop off)
    | none => none := rfl
/-- A site. -/
structure Site where
  num : Int
  role : Int
  ep : Int
  app : Int
  lin : List Sp
  src : Int
  al : Bool
  co : Bool
@[go_sem] def siteRow (s : Site) : List AV := [.sc (.int .i64 s.num), .sc (.int .i64 s.role), .sc (.int .i64 s.ep), .sc (.int .i64 s.app), .sl false 3 (s.lin.map fun x => [.sc (.int .i64 x.e), .sc (.int .i64 x.f), .sc (.int .i64 x.t)]), .sc (.int .i64 s.src), .sc (.bool s.al), .sc (.bool s.co)]
@[go_sem] def zSites (l : List Site) : AV := .sl false 8 (l.map fun s => [.sc (.int .i64 s.num), .sc (.int .i64 s.role), .sc (.int .i64 s.ep), .sc (.int .i64 s.app), .sl false 3 (s.lin.map fun x => [.sc (.int .i64 x.e), .sc (.int .i64 x.f), .sc (.int .i64 x.t)]), .sc (.int .i64 s.src), .sc (.bool s.al), .sc (.bool s.co)])

def endE (l : List Sp) : Int := (l.getLast?.getD sp0).e
def recv (r : Int) : Bool := decide (r = 2) || decide (r = 4)
def mSite (s : Site) : Int :=
  if ¬ (0 ≤ s.num ∧ s.num ≤ 3) then 2 else
  if ¬ (0 ≤ s.role ∧ s.role ≤ 5) then 18 else
  if ¬ (0 ≤ s.ep ∧ s.ep ≤ 1073741824) then 2 else
  if ¬ (0 ≤ s.app ∧ s.app ≤ 1073741824) then 2 else
  if s.ep = 0 ∧ s.role ≠ 0 then 2 else
  if spOk sp0 s.lin = false then 3 else
  if s.ep < endE s.lin then 13 else
  if endT s.lin ≠ s.app then 22 else
  if recv s.role = true then (if 0 ≤ s.src ∧ s.src ≤ 3 ∧ s.src ≠ s.num then 0 else 1) else if s.src = -1 then 0 else 1

theorem f125_spec (n lo hi : Int) (Y : List YF) : callS ev fs 125 [zI n, zI lo, zI hi] [] Y = some (.ret (zB (decide (lo ≤ n ∧ n ≤ hi))), []) := by
  refine callS_by f125_eq rfl ?_
  simp only [bodyOf, Go.Proofs.Try.f125, Option.getD_some]
  by_cases h : lo ≤ n
  · simp [go_sem, h]
  · simp [go_sem, h]
theorem f171_spec (r : Int) (Y : List YF) : callS ev fs 171 [zI r] [] Y = some (.ret (zB (recv r)), []) := by
  refine callS_by f171_eq rfl ?_
  simp only [bodyOf, Go.Proofs.Try.f171, Option.getD_some]
  by_cases h : r = 2
  · simp [go_sem, h, recv]
  · simp [go_sem, h, recv]
theorem f237_spec (r : Int) (Y : List YF) : callS ev fs 237 [zI r] [] Y = some (.ret (zB (recv r)), []) := by
  refine callS_by f237_eq rfl ?_
  simp only [bodyOf, Go.Proofs.Try.f237, Option.getD_some]
  by_cases h : r = 2
  · simp [go_sem, h, recv]
  · simp [go_sem, h, recv]
theorem f234_spec (n : Int) (Y : List YF) : callS ev fs 234 [zI n] [] Y = some (.ret (zB (decide (0 ≤ n ∧ n ≤ 3))), []) := by
  refine callS_by f234_eq rfl ?_
  simp only [bodyOf, Go.Proofs.Try.f234, Option.getD_some]
  by_cases h : 0 ≤ n
  · simp [go_sem, h]
    omega
  · simp [go_sem, h]
theorem f235_spec (n : Int) (Y : List YF) : callS ev fs 235 [zI n] [] Y = some (.ret (zB (decide (0 ≤ n ∧ n ≤ 1073741824))), []) := by
  refine callS_by f235_eq rfl ?_
  simp only [bodyOf, Go.Proofs.Try.f235, Option.getD_some]
  by_cases h : 0 ≤ n
  · simp [go_sem, h]
  · simp [go_sem, h]
theorem f122_spec (s : Site) (n : Int) (Y : List YF) : callS ev fs 122 [.agg (siteRow s), zI n] [] Y = some (.ret (zB (decide (0 ≤ n ∧ n ≤ 3 ∧ n ≠ s.num))), []) := by
  refine callS_by f122_eq rfl ?_
  simp only [bodyOf, Go.Proofs.Try.f122, Option.getD_some]
  have h1 := f125_spec n 0 3 []
  simp only [go_sem] at h1
  by_cases h : 0 ≤ n ∧ n ≤ 3
  · simp only [h.1, h.2, and_self, decide_true] at h1
    simp [go_sem, h1, h.1, h.2]
  · simp only [h, decide_false] at h1
    have h2 : ¬ (0 ≤ n ∧ n ≤ 3 ∧ n ≠ s.num) := fun hh => h ⟨hh.1, hh.2.1⟩
    simp only [h2, decide_false]
    simp [go_sem, h1]

theorem last_get (l : List Sp) (h : l ≠ []) : ∃ hl : l.length - 1 < l.length, l.getLast?.getD sp0 = l[l.length - 1] := by
  have hl : l.length - 1 < l.length := by
    have : l.length ≠ 0 := by simpa using h
    omega
  exact ⟨hl, by simp [List.getLast?_eq_getElem?, hl]⟩
theorem f128_spec (l : List Sp) (hl : l.length < 1000000000) (Y : List YF) : callS ev fs 128 [zSps l] [] Y = some (.ret (.agg [zI (l.getLast?.getD sp0).e, zI (l.getLast?.getD sp0).f, zI (l.getLast?.getD sp0).t]), []) := by
  refine callS_by f128_eq rfl ?_
  simp only [bodyOf, Go.Proofs.Try.f128, Option.getD_some]
  by_cases h0 : l = []
  · subst h0
    simp [go_sem, sp0]
  · obtain ⟨hlt, he⟩ := last_get l h0
    rw [he]
    have h0' : ¬ l.length = 0 := by simpa using h0
    have hi : (l.length : Int) - 1 = ((l.length - 1 : Nat) : Int) := by omega
    generalize hk : l.length - 1 = k at *
    simp [go_sem, h0, h0', hi, hlt, show k < 1000000000 by omega]
theorem f236_spec (l : List Sp) (hl : l.length < 1000000000) (Y : List YF) : callS ev fs 236 [zSps l] [] Y = some (.ret (.tup [zI (endE l), zI (endT l)]), []) := by
  refine callS_by f236_eq rfl ?_
  simp only [bodyOf, Go.Proofs.Try.f236, Option.getD_some]
  by_cases h0 : l = []
  · subst h0
    simp [go_sem, endE, endT, sp0]
  · obtain ⟨hlt, he⟩ := last_get l h0
    unfold endE endT
    rw [he]
    have h0' : ¬ l.length = 0 := by simpa using h0
    have hi : (l.length : Int) - 1 = ((l.length - 1 : Nat) : Int) := by omega
    generalize hk : l.length - 1 = k at *
    simp [go_sem, h0, h0', hi, hlt, show k < 1000000000 by omega]
theorem ancestor_own (l : List Sp) : ancestor l l = if spOk sp0 l = true then (endT l, endE l) else (0, 0) := by
  unfold ancestor anc
  rw [anc_self]
  cases spOk sp0 l
  · rfl
  · cases h : l.getLast? with
    | none => simp [endT, endE, h, sp0]
    | some z => simp [endT, endE, h]
theorem f170_spec (l : List Sp) (hl : l.length < 1000000000) (Y : List YF) : callS ev fs 170 [zSps l] [] Y = some (.ret (zB (spOk sp0 l)), []) := by
  refine callS_by f170_eq rfl ?_
  simp only [bodyOf, Go.Proofs.Try.f170, Option.getD_some]
  by_cases h0 : l = []
  · subst h0
    simp [go_sem, spOk]
  · have h1 := f60_spec l l hl hl []
    rw [ancestor_own] at h1
    obtain ⟨hlt, he⟩ := last_get l h0
    have h0' : ¬ l.length = 0 := by simpa using h0
    have hi : (l.length : Int) - 1 = ((l.length - 1 : Nat) : Int) := by omega
    simp only [go_sem, endT, endE, he] at h1
    generalize hk : l.length - 1 = k at *
    cases ho : spOk sp0 l with
    | false =>
      simp [ho] at h1
      by_cases c : l[k].t = 0
      · by_cases c' : l[k].e = 0
        · simp [go_sem, h1, h0, h0', hi, hlt, c, c', show k < 1000000000 by omega]
        · simp [go_sem, h1, h0, h0', hi, hlt, c, Ne.symm c', show k < 1000000000 by omega]
      · simp [go_sem, h1, h0, h0', hi, hlt, Ne.symm c, show k < 1000000000 by omega]
    | true =>
      simp [ho] at h1
      have hp := spOk_last l sp0 sp0_good ho h0
      rw [he] at hp
      simp [go_sem, h1, h0, h0', hi, hlt, hp, show k < 1000000000 by omega]

theorem f78_spec (s : Site) (hl : s.lin.length < 1000000000) (Y : List YF) : callS ev fs 78 [.agg (siteRow s)] [] Y = some (.ret (zI (mSite s)), []) := by
  refine callS_by f78_eq rfl ?_
  simp only [bodyOf, Go.Proofs.Try.f78, Option.getD_some]
  obtain ⟨num, role, ep, app, lin, src, al, co⟩ := s
  have a1 := f125_spec num 0 3 []
  have a2 := f125_spec role 0 5 []
  have a3 := f125_spec ep 0 1073741824 []
  have a4 := f125_spec app 0 1073741824 []
  have a5 := f170_spec lin hl []
  have a6 := f128_spec lin hl []
  have a7 := f171_spec role []
  have a8 := f122_spec ⟨num, role, ep, app, lin, src, al, co⟩ src []
  simp only [go_sem] at a1 a2 a3 a4 a5 a6 a7 a8
  simp only [mSite, siteRow]
  by_cases c1 : ¬ (0 ≤ num ∧ num ≤ 3)
  · rw [decide_eq_false c1] at a1
    rw [if_pos c1]
    simp [go_sem, a1]
  replace c1 := Decidable.not_not.1 c1
  rw [decide_eq_true c1] at a1
  by_cases c2 : ¬ (0 ≤ role ∧ role ≤ 5)
  · rw [decide_eq_false c2] at a2
    rw [if_neg (fun h => h c1), if_pos c2]
    simp [go_sem, a1, a2]
  replace c2 := Decidable.not_not.1 c2
  rw [decide_eq_true c2] at a2
  by_cases c3 : ¬ (0 ≤ ep ∧ ep ≤ 1073741824)
  · rw [decide_eq_false c3] at a3
    rw [if_neg (fun h => h c1), if_neg (fun h => h c2), if_pos c3]
    simp [go_sem, a1, a2, a3]
  replace c3 := Decidable.not_not.1 c3
  rw [decide_eq_true c3] at a3
  by_cases c4 : ¬ (0 ≤ app ∧ app ≤ 1073741824)
  · rw [decide_eq_false c4] at a4
    rw [if_neg (fun h => h c1), if_neg (fun h => h c2), if_neg (fun h => h c3), if_pos c4]
    simp [go_sem, a1, a2, a3, a4]
  replace c4 := Decidable.not_not.1 c4
  rw [decide_eq_true c4] at a4
  rw [if_neg (fun h => h c1), if_neg (fun h => h c2), if_neg (fun h => h c3), if_neg (fun h => h c4)]
  by_cases e0 : ep = 0
  · subst e0
    by_cases r0 : role = 0
    · subst r0
      rw [if_neg (fun h => h.2 rfl)]
      cases c7 : spOk sp0 lin with
      | false =>
        rw [if_pos rfl]
        rw [c7] at a5
        simp [go_sem, a1, a2, a3, a4, a5]
      | true =>
      rw [if_neg (by simp)]
      rw [c7] at a5
      by_cases c8 : 0 < endE lin
      · rw [if_pos c8]
        unfold endE at c8
        simp [go_sem, a1, a2, a3, a4, a5, a6, c8]
      rw [if_neg c8]
      by_cases c9 : endT lin ≠ app
      · rw [if_pos c9]
        unfold endT at c9
        unfold endE at c8
        simp [go_sem, a1, a2, a3, a4, a5, a6, c8, c9]
      rw [if_neg c9]
      replace c9 := Decidable.not_not.1 c9
      subst c9
      unfold endT at *
      unfold endE at c8
      cases c10 : recv 0 with
      | true =>
        rw [if_pos rfl]
        rw [c10] at a7
        by_cases c11 : 0 ≤ src ∧ src ≤ 3 ∧ src ≠ num
        · rw [if_pos c11]
          rw [decide_eq_true c11] at a8
          simp [go_sem, a1, a2, a3, a4, a5, a6, a7, a8, c8]
        · rw [if_neg c11]
          rw [decide_eq_false c11] at a8
          simp [go_sem, a1, a2, a3, a4, a5, a6, a7, a8, c8]
      | false =>
        rw [if_neg (by simp)]
        rw [c10] at a7
        by_cases c12 : src = -1
        · subst c12
          simp [go_sem, a1, a2, a3, a4, a5, a6, a7, c8]
        · simp [go_sem, a1, a2, a3, a4, a5, a6, a7, c8, c12]
    · rw [if_pos ⟨rfl, r0⟩]
      simp [go_sem, a1, a2, a3, a4, r0]
  · rw [if_neg (fun h => e0 h.1)]
    cases c7 : spOk sp0 lin with
    | false =>
      rw [if_pos rfl]
      rw [c7] at a5
      simp [go_sem, a1, a2, a3, a4, a5, e0]
    | true =>
    rw [if_neg (by simp)]
    rw [c7] at a5
    by_cases c8 : ep < endE lin
    · rw [if_pos c8]
      unfold endE at c8
      simp [go_sem, a1, a2, a3, a4, a5, a6, c8, e0]
    rw [if_neg c8]
    by_cases c9 : endT lin ≠ app
    · rw [if_pos c9]
      unfold endT at c9
      unfold endE at c8
      simp [go_sem, a1, a2, a3, a4, a5, a6, c8, c9, e0]
    rw [if_neg c9]
    replace c9 := Decidable.not_not.1 c9
    subst c9
    unfold endT at *
    unfold endE at c8
    cases c10 : recv role with
    | true =>
      rw [if_pos rfl]
      rw [c10] at a7
      by_cases c11 : 0 ≤ src ∧ src ≤ 3 ∧ src ≠ num
      · rw [if_pos c11]
        rw [decide_eq_true c11] at a8
        simp [go_sem, a1, a2, a3, a4, a5, a6, a7, a8, c8, e0]
      · rw [if_neg c11]
        rw [decide_eq_false c11] at a8
        simp [go_sem, a1, a2, a3, a4, a5, a6, a7, a8, c8, e0]
    | false =>
      rw [if_neg (by simp)]
      rw [c10] at a7
      by_cases c12 : src = -1
      · subst c12
        simp [go_sem, a1, a2, a3, a4, a5, a6, a7, c8, e0]
      · simp [go_sem, a1, a2, a3, a4, a5, a6, a7, c8, c12, e0]

theorem f210_spec (s : Site) (hl : s.lin.length < 1000000000) (Y : List YF) : callS ev fs 210 [.agg (siteRow s)] [] Y = some (.ret (zI (mSite s)), []) := by
  refine callS_by f210_eq rfl ?_
  simp only [bodyOf, Go.Proofs.Try.f210, Option.getD_some]
  obtain ⟨num, role, ep, app, lin, src, al, co⟩ := s
  have a1 := f234_spec num []
  have a3 := f235_spec ep []
  have a4 := f235_spec app []
  have a5 := f150_spec lin hl []
  have a6 := f236_spec lin hl []
  have a7 := f237_spec role []
  have a8 := f234_spec src []
  simp only [go_sem, endE, endT] at a1 a3 a4 a5 a6 a7 a8
  simp only [mSite, siteRow]
  by_cases c1 : ¬ (0 ≤ num ∧ num ≤ 3)
  · rw [decide_eq_false c1] at a1
    rw [if_pos c1]
    simp [go_sem, a1]
  replace c1 := Decidable.not_not.1 c1
  rw [decide_eq_true c1] at a1
  rw [if_neg (fun h => h c1)]
  by_cases c2 : ¬ (0 ≤ role ∧ role ≤ 5)
  · rw [if_pos c2]
    by_cases c2' : role < 0
    · simp [go_sem, a1, c2']
    · simp [go_sem, a1, c2', show 5 < role by omega]
  replace c2 := Decidable.not_not.1 c2
  rw [if_neg (fun h => h c2)]
  have d1 : ¬ role < 0 := by omega
  have d2 : ¬ 5 < role := by omega
  by_cases c3 : ¬ (0 ≤ ep ∧ ep ≤ 1073741824)
  · rw [decide_eq_false c3] at a3
    rw [if_pos c3]
    simp [go_sem, a1, d1, d2, a3]
  replace c3 := Decidable.not_not.1 c3
  rw [decide_eq_true c3] at a3
  rw [if_neg (fun h => h c3)]
  by_cases c4 : ¬ (0 ≤ app ∧ app ≤ 1073741824)
  · rw [decide_eq_false c4] at a4
    rw [if_pos c4]
    simp [go_sem, a1, d1, d2, a3, a4]
  replace c4 := Decidable.not_not.1 c4
  rw [decide_eq_true c4] at a4
  rw [if_neg (fun h => h c4)]
  by_cases e0 : ep = 0
  · subst e0
    by_cases r0 : role = 0
    · subst r0
      rw [if_neg (fun h => h.2 rfl)]
      cases c7 : spOk sp0 lin with
      | false =>
        rw [if_pos rfl]
        rw [c7] at a5
        simp [go_sem, a1, d1, d2, a3, a4, a5]
      | true =>
      rw [if_neg (by simp)]
      rw [c7] at a5
      by_cases c8 : 0 < endE lin
      · rw [if_pos c8]
        unfold endE at c8
        simp [go_sem, a1, d1, d2, a3, a4, a5, a6, c8]
      rw [if_neg c8]
      by_cases c9 : endT lin ≠ app
      · rw [if_pos c9]
        unfold endT at c9
        unfold endE at c8
        simp [go_sem, a1, d1, d2, a3, a4, a5, a6, c8, c9]
      rw [if_neg c9]
      replace c9 := Decidable.not_not.1 c9
      subst c9
      unfold endT at *
      unfold endE at c8
      cases c10 : recv 0 with
      | true =>
        rw [if_pos rfl]
        rw [c10] at a7
        by_cases c11 : 0 ≤ src ∧ src ≤ 3
        · rw [decide_eq_true c11] at a8
          by_cases c13 : src = num
          · rw [if_neg (fun h => h.2.2 c13)]
            subst c13
            simp [go_sem, a1, d1, d2, a3, a4, a5, a6, a7, a8, c8]
          · rw [if_pos ⟨c11.1, c11.2, c13⟩]
            simp [go_sem, a1, d1, d2, a3, a4, a5, a6, a7, a8, c8, c13]
        · rw [decide_eq_false c11] at a8
          rw [if_neg (fun h => c11 ⟨h.1, h.2.1⟩)]
          simp [go_sem, a1, d1, d2, a3, a4, a5, a6, a7, a8, c8]
      | false =>
        rw [if_neg (by simp)]
        rw [c10] at a7
        by_cases c12 : src = -1
        · subst c12
          simp [go_sem, a1, d1, d2, a3, a4, a5, a6, a7, c8]
        · simp [go_sem, a1, d1, d2, a3, a4, a5, a6, a7, c8, c12]
    · rw [if_pos ⟨rfl, r0⟩]
      simp [go_sem, a1, d1, d2, a3, a4, r0]
  · rw [if_neg (fun h => e0 h.1)]
    cases c7 : spOk sp0 lin with
    | false =>
      rw [if_pos rfl]
      rw [c7] at a5
      simp [go_sem, a1, d1, d2, a3, a4, a5, e0]
    | true =>
    rw [if_neg (by simp)]
    rw [c7] at a5
    by_cases c8 : ep < endE lin
    · rw [if_pos c8]
      unfold endE at c8
      simp [go_sem, a1, d1, d2, a3, a4, a5, a6, c8, e0]
    rw [if_neg c8]
    by_cases c9 : endT lin ≠ app
    · rw [if_pos c9]
      unfold endT at c9
      unfold endE at c8
      simp [go_sem, a1, d1, d2, a3, a4, a5, a6, c8, c9, e0]
    rw [if_neg c9]
    replace c9 := Decidable.not_not.1 c9
    subst c9
    unfold endT at *
    unfold endE at c8
    cases c10 : recv role with
    | true =>
      rw [if_pos rfl]
      rw [c10] at a7
      by_cases c11 : 0 ≤ src ∧ src ≤ 3
      · rw [decide_eq_true c11] at a8
        by_cases c13 : src = num
        · rw [if_neg (fun h => h.2.2 c13)]
          subst c13
          simp [go_sem, a1, d1, d2, a3, a4, a5, a6, a7, a8, c8, e0]
        · rw [if_pos ⟨c11.1, c11.2, c13⟩]
          simp [go_sem, a1, d1, d2, a3, a4, a5, a6, a7, a8, c8, e0, c13]
      · rw [decide_eq_false c11] at a8
        rw [if_neg (fun h => c11 ⟨h.1, h.2.1⟩)]
        simp [go_sem, a1, d1, d2, a3, a4, a5, a6, a7, a8, c8, e0]
    | false =>
      rw [if_neg (by simp)]
      rw [c10] at a7
      by_cases c12 : src = -1
      · subst c12
        simp [go_sem, a1, d1, d2, a3, a4, a5, a6, a7, c8, e0]
      · simp [go_sem, a1, d1, d2, a3, a4, a5, a6, a7, c8, c12, e0]
end Go.Proofs.Ytlphdiccffnckaa

/- Layer 54: sites that have diverged. -/
namespace Go.Proofs.Ytlphdiccffnckaa
open Go Go.Abs
theorem f49_eq : fs 49 = some (mkFn {} Go.Proofs.Try.f49 (bodyOf Go.Proofs.Try.f49)) := by kernel_rfl
theorem f64_eq : fs 64 = some (mkFn {} Go.Proofs.Try.f64 (bodyOf Go.Proofs.Try.f64)) := by kernel_rfl
theorem f69_eq : fs 69 = some (mkFn {} Go.Proofs.Try.f69 (bodyOf Go.Proofs.Try.f69)) := by kernel_rfl
theorem f70_eq : fs 70 = some (mkFn w70 Go.Proofs.Try.f70 (bodyOf Go.Proofs.Try.f70)) := by kernel_rfl
theorem f71_eq : fs 71 = some (mkFn {} Go.Proofs.Try.f71 (bodyOf Go.Proofs.Try.f71)) := by kernel_rfl
theorem f141_eq : fs 141 = some (mkFn w141 Go.Proofs.Try.f141 (bodyOf Go.Proofs.Try.f141)) := by kernel_rfl
theorem f153_eq : fs 153 = some (mkFn {} Go.Proofs.Try.f153 (bodyOf Go.Proofs.Try.f153)) := by kernel_rfl
theorem f154_eq : fs 154 = some (mkFn {} Go.Proofs.Try.f154 (bodyOf Go.Proofs.Try.f154)) := by kernel_rfl
theorem f155_eq : fs 155 = some (mkFn w155 Go.Proofs.Try.f155 (bodyOf Go.Proofs.Try.f155)) := by kernel_rfl
theorem f157_eq : fs 157 = some (mkFn {} Go.Proofs.Try.f157 (bodyOf Go.Proofs.Try.f157)) := by kernel_rfl
theorem f158_eq : fs 158 = some (mkFn {} Go.Proofs.Try.f158 (bodyOf Go.Proofs.Try.f158)) := by kernel_rfl
theorem f159_eq : fs 159 = some (mkFn {} Go.Proofs.Try.f159 (bodyOf Go.Proofs.Try.f159)) := by kernel_rfl
theorem f160_eq : fs 160 = some (mkFn {} Go.Proofs.Try.f160 (bodyOf Go.Proofs.Try.f160)) := by kernel_rfl
theorem f208_eq : fs 208 = some (mkFn {} Go.Proofs.Try.f208 (bodyOf Go.Proofs.Try.f208)) := by kernel_rfl

def siteLen (l : List Site) : Prop := l.length < 100000000 ∧ ∀ s ∈ l, s.lin.length < 1000000000

theorem f154_spec (s : Site) (Y : List YF) : callS ev fs 154 [.agg (siteRow s)] [] Y = some (.ret (zB (decide (20 < s.lin.length))), []) := by
  refine callS_by f154_eq rfl ?_
  simp only [bodyOf, Go.Proofs.Try.f154, Option.getD_some]
  simp [go_sem]
theorem f208_spec (xs : List Site) (g : Nat) (p : Site → Bool) (hl : xs.length < 1000000000)
    (hg : ∀ x ∈ xs, callS ev fs g [.agg (siteRow x)] [] [] = some (.ret (zB (p x)), [])) (Y : List YF) :
    callS ev fs 208 [zSites xs, .fn g []] [] Y = some (.ret (zI (match xs.findIdx? p with | some j => (j : Int) | none => -1)), []) := by
  refine callS_by f208_eq rfl ?_
  simp only [bodyOf, Go.Proofs.Try.f208, Option.getD_some]
  obtain ⟨R, hR⟩ := fold_loop (E := ev) (C := callS ev fs) (Y := Y) (w := {}) (a := (loopsOf (bodyOf Go.Proofs.Try.f208))[0]?.getD .skip) (b := 0) 
    xs (fun i (_ : Unit) x => if p x = true then .inr i else .inl ()) () (ex := fun _ => .ret)
    (fun i _ => Live [(0, zSites xs), (1, .fn g []), (7, zI xs.length), (8, zI i)] [] 0) (fun _ => Live [] [] 0) (fun j => Live [(4, zI j)] [] 0)
    (fun i s st hi h => by
      obtain ⟨tm, H, b⟩ := st
      simp only [bodyOf, Go.Proofs.Try.f208, Option.getD_some, loopsOf, rangesOf, List.nil_append, List.append_nil, List.cons_append, List.getElem?_cons_zero, List.getElem?_cons_succ]
      simp only [go_sem] at h
      obtain ⟨h0, h1, h7, h8, rfl, rfl⟩ := h
      have hgx := hg xs[i] (List.getElem_mem hi)
      simp only [go_sem] at hgx
      cases hp : p xs[i] <;> simp [go_sem, h0, h1, h7, h8, hi, hp, hgx, show i < 1000000000 by omega])
    (fun s st h => by
      obtain ⟨tm, H, b⟩ := st
      simp only [bodyOf, Go.Proofs.Try.f208, Option.getD_some, loopsOf, rangesOf, List.nil_append, List.append_nil, List.cons_append, List.getElem?_cons_zero, List.getElem?_cons_succ]
      simp only [go_sem] at h
      obtain ⟨h0, h1, h7, h8, rfl, rfl⟩ := h
      simp [go_sem, h7, h8])
    (fun _ h => by cases h)
  simp only [bodyOf, Go.Proofs.Try.f208, Option.getD_some, loopsOf, rangesOf, List.nil_append, List.append_nil, List.cons_append, List.getElem?_cons_zero, List.getElem?_cons_succ] at hR
  rw [foldE_idx] at hR
  cases hf : xs.findIdx? p <;> simp [go_sem, hf] at hR <;> simp [go_sem, hR]
theorem f153_spec (xs : List Site) (g : Nat) (p : Site → Bool) (hl : xs.length < 1000000000)
    (hg : ∀ x ∈ xs, callS ev fs g [.agg (siteRow x)] [] [] = some (.ret (zB (p x)), [])) (Y : List YF) :
    callS ev fs 153 [zSites xs, .fn g []] [] Y = some (.ret (zB (xs.any p)), []) := by
  refine callS_by f153_eq rfl ?_
  simp only [bodyOf, Go.Proofs.Try.f153, Option.getD_some]
  have h := f208_spec xs g p hl hg []
  simp only [go_sem] at h
  have hm : xs.any p = (xs.findIdx? p).isSome := by rw [List.findIdx?_isSome]
  rw [hm]
  cases hf : xs.findIdx? p <;> simp [go_sem, hf] at h <;> simp [go_sem, h]
def fewS (l : List Site) : Bool := decide (l.length ≤ 8) && !l.any fun s => decide (20 < s.lin.length)
theorem f64_spec (l : List Site) (Y : List YF) : callS ev fs 64 [zSites l] [] Y = some (.ret (zB (fewS l)), []) := by
  refine callS_by f64_eq rfl ?_
  simp only [bodyOf, Go.Proofs.Try.f64, Option.getD_some]
  by_cases h1 : l.length ≤ 8
  · have h := f153_spec l 154 (fun s => decide (20 < s.lin.length)) (by omega) (fun x _ => f154_spec x []) []
    simp only [go_sem] at h
    simp [go_sem, h1, h, fewS]
  · simp [go_sem, h1, fewS]
theorem few_sites {l : List Site} (h : fewS l = true) : l.length ≤ 8 ∧ ∀ s ∈ l, s.lin.length ≤ 20 := by
  simpa [fewS] using h

/-- The first error of sites. -/
def firstErr : List Site → Int
  | [] => 0
  | s :: l => if mSite s = 0 then firstErr l else mSite s
theorem foldE_err : ∀ (l : List Site) (i : Nat), foldE (fun _ (_ : Unit) s => if mSite s = 0 then .inl () else .inr (mSite s)) i () l = if firstErr l = 0 then .inl () else .inr (firstErr l)
  | [], _ => rfl
  | s :: l, i => by
    simp only [foldE, firstErr]
    by_cases h : mSite s = 0
    · simp only [h, if_true]
      exact foldE_err l (i + 1)
    · simp [h]
def mSites (l : List Site) : Int := if 4 < l.length then 6 else firstErr l

theorem f155_spec (l : List Site) (hl : siteLen l) (Y : List YF) : callS ev fs 155 [zSites l] [] Y = some (.ret (zI (mSites l)), []) := by
  refine callS_by f155_eq rfl ?_
  simp only [bodyOf, Go.Proofs.Try.f155, Option.getD_some]
  by_cases h4 : 4 < l.length
  · simp [go_sem, h4, mSites]
  obtain ⟨R, hR⟩ := fold_loop (E := ev) (C := callS ev fs) (Y := Y) (w := w155) (a := (loopsOf (bodyOf Go.Proofs.Try.f155))[0]?.getD .skip) (b := 0) 
    l (fun _ (_ : Unit) s => if mSite s = 0 then .inl () else .inr (mSite s)) () (ex := fun _ => .ret)
    (fun i _ st => LiveT [(9, zSites l), (10, zI l.length), (11, zI i)] 0 st) (fun _ => LiveT [] 0) (fun e st => st.tm.get 2 = zI e ∧ st.b = 0)
    (fun i s st hi h => by
      obtain ⟨tm, H, b⟩ := st
      simp only [bodyOf, Go.Proofs.Try.f155, Option.getD_some, loopsOf, rangesOf, List.nil_append, List.append_nil, List.cons_append, List.getElem?_cons_zero, List.getElem?_cons_succ]
      simp only [go_sem] at h
      obtain ⟨h9, h10, h11, rfl⟩ := h
      have hc := f78_spec l[i] (hl.2 _ (List.getElem_mem hi)) []
      simp only [go_sem] at hc
      by_cases h0 : mSite l[i] = 0
      · simp [go_sem, h9, h10, h11, hi, hc, h0, show i < 1000000000 by have := hl.1; omega]
      · simp [go_sem, h9, h10, h11, hi, hc, h0])
    (fun s st h => by
      obtain ⟨tm, H, b⟩ := st
      simp only [bodyOf, Go.Proofs.Try.f155, Option.getD_some, loopsOf, rangesOf, List.nil_append, List.append_nil, List.cons_append, List.getElem?_cons_zero, List.getElem?_cons_succ]
      simp only [go_sem] at h
      obtain ⟨h9, h10, h11, rfl⟩ := h
      simp [go_sem, h9, h10, h11])
    (fun _ h => by cases h)
  simp only [bodyOf, Go.Proofs.Try.f155, Option.getD_some, loopsOf, rangesOf, List.nil_append, List.append_nil, List.cons_append, List.getElem?_cons_zero, List.getElem?_cons_succ] at hR
  simp only [foldE_err] at hR
  by_cases h0 : firstErr l = 0
  · simp [go_sem, h0] at hR
    simp [go_sem, h4, hR, mSites, h0]
  · simp [go_sem, h0] at hR
    simp [go_sem, h4, hR, mSites]
theorem f158_spec (l : List Site) (hl : siteLen l) (Y : List YF) : callS ev fs 158 [zSites l] [] Y = some (.ret (zI (mSites l)), []) := by
  refine callS_by f158_eq rfl ?_
  simp only [bodyOf, Go.Proofs.Try.f158, Option.getD_some]
  by_cases h4 : 4 < l.length
  · simp [go_sem, h4, mSites]
  obtain ⟨R, hR⟩ := fold_loop (E := ev) (C := callS ev fs) (Y := Y) (w := {}) (a := (loopsOf (bodyOf Go.Proofs.Try.f158))[0]?.getD .skip) (b := 0) 
    l (fun _ (_ : Unit) s => if mSite s = 0 then .inl () else .inr (mSite s)) () (ex := fun _ => .ret)
    (fun i _ => Live [(0, zSites l), (3, zI i)] [] 0) (fun _ => Live [] [] 0) (fun e => Live [(2, zI e)] [] 0)
    (fun i s st hi h => by
      obtain ⟨tm, H, b⟩ := st
      simp only [bodyOf, Go.Proofs.Try.f158, Option.getD_some, loopsOf, rangesOf, List.nil_append, List.append_nil, List.cons_append, List.getElem?_cons_zero, List.getElem?_cons_succ]
      simp only [go_sem] at h
      obtain ⟨h0', h3, rfl, rfl⟩ := h
      have hc := f210_spec l[i] (hl.2 _ (List.getElem_mem hi)) []
      simp only [go_sem] at hc
      by_cases h0 : mSite l[i] = 0
      · simp [go_sem, h0', h3, hi, hc, h0, show i < 1000000000 by have := hl.1; omega]
      · simp [go_sem, h0', h3, hi, hc, h0])
    (fun s st h => by
      obtain ⟨tm, H, b⟩ := st
      simp only [bodyOf, Go.Proofs.Try.f158, Option.getD_some, loopsOf, rangesOf, List.nil_append, List.append_nil, List.cons_append, List.getElem?_cons_zero, List.getElem?_cons_succ]
      simp only [go_sem] at h
      obtain ⟨h0', h3, rfl, rfl⟩ := h
      simp [go_sem, h0', h3])
    (fun _ h => by cases h)
  simp only [bodyOf, Go.Proofs.Try.f158, Option.getD_some, loopsOf, rangesOf, List.nil_append, List.append_nil, List.cons_append, List.getElem?_cons_zero, List.getElem?_cons_succ] at hR
  simp only [foldE_err] at hR
  by_cases h0 : firstErr l = 0
  · simp [go_sem, h0] at hR
    simp [go_sem, h4, hR, mSites, h0]
  · simp [go_sem, h0] at hR
    simp [go_sem, h4, hR, mSites]

/-- Two sites have diverged. -/
def mApart (a b : Site) : Bool := if a.role = 4 ∨ b.role = 4 then false else (fork a.lin b.lin).2 || (decide (a.role = 1) && decide (b.role = 1) && decide (a.ep = b.ep))
theorem f157_spec (a b : Site) (ha : a.lin.length < 1000000000) (hb : b.lin.length < 1000000000) (Y : List YF) : callS ev fs 157 [.agg (siteRow a), .agg (siteRow b)] [] Y = some (.ret (zB (mApart a b)), []) := by
  refine callS_by f157_eq rfl ?_
  simp only [bodyOf, Go.Proofs.Try.f157, Option.getD_some]
  have h62 := f62_spec a.lin b.lin ha hb []
  simp only [go_sem] at h62
  by_cases c1 : a.role = 4
  · simp [go_sem, c1, mApart]
  by_cases c2 : b.role = 4
  · simp [go_sem, c1, c2, mApart]
  cases c3 : (fork a.lin b.lin).2 with
  | true =>
    rw [c3] at h62
    simp [go_sem, h62, c1, c2, c3, mApart]
  | false =>
    rw [c3] at h62
    by_cases c4 : a.role = 1
    · by_cases c5 : b.role = 1
      · simp [go_sem, h62, c1, c2, c3, c4, c5, mApart]
      · simp [go_sem, h62, c1, c2, c3, c4, c5, mApart]
    · simp [go_sem, h62, c1, c2, c3, c4, mApart]
theorem f159_spec (a b : Site) (ha : a.lin.length < 1000000000) (hb : b.lin.length < 1000000000) (Y : List YF) : callS ev fs 159 [.agg (siteRow a), .agg (siteRow b)] [] Y = some (.ret (zB (mApart a b)), []) := by
  refine callS_by f159_eq rfl ?_
  simp only [bodyOf, Go.Proofs.Try.f159, Option.getD_some]
  have h63 := f63_spec a.lin b.lin ha hb []
  simp only [go_sem] at h63
  by_cases c1 : a.role = 4
  · simp [go_sem, c1, mApart]
  by_cases c2 : b.role = 4
  · simp [go_sem, c1, c2, mApart]
  by_cases c4 : a.role = 1
  · by_cases c5 : b.role = 1
    · by_cases c6 : a.ep = b.ep
      · simp [go_sem, h63, c1, c2, c4, c5, c6, mApart]
      · simp [go_sem, h63, c1, c2, c4, c5, c6, mApart]
    · simp [go_sem, h63, c1, c2, c4, c5, mApart]
  · simp [go_sem, h63, c1, c2, c4, mApart]

theorem f141_gen (l : List Sp) (H : List Ent) (hv : l ≠ []) (hl : l.length < 1000000000) (Y : List YF) :
    callS ev fs 141 [zSps l] H Y = some (.ret (.os H.length 0 l.length 1), H ++ [.own 1 3 (l.map fun x => [.sc (.int .i64 x.e), .sc (.int .i64 x.f), .sc (.int .i64 x.t)])]) := by
  refine callS_by f141_eq rfl ?_
  simp only [bodyOf, Go.Proofs.Try.f141, Option.getD_some]
  obtain ⟨x, l, rfl⟩ := List.exists_cons_of_ne_nil hv
  simp only [List.length_cons] at hl
  have hr : room (l.length + 1) 24 = true := room_ok (by omega) (by omega) (by omega)
  simp [go_sem, hr]
theorem f141_nsl (n : Bool) : ∃ v H1 v', callS ev fs 141 [.nsl n 3] [] [] = some (.ret v, H1) ∧ bareRet H1 v = some v' ∧ emptySl v' = true := by
  cases n
  · refine ⟨.os 0 0 0 1, [.own 1 3 []], .sl false 3 [], ?_, rfl, rfl⟩
    refine callS_by f141_eq rfl ?_
    simp only [bodyOf, Go.Proofs.Try.f141, Option.getD_some]
    simp [go_sem, room_ok]
  · refine ⟨.sc (.slice none 0 0), [], .sc (.slice none 0 0), ?_, rfl, rfl⟩
    refine callS_by f141_eq rfl ?_
    simp only [bodyOf, Go.Proofs.Try.f141, Option.getD_some]
    simp [go_sem]
theorem bareRet_sps (l : List Sp) : bareRet [.own 1 3 (l.map fun x => [.sc (.int .i64 x.e), .sc (.int .i64 x.f), .sc (.int .i64 x.t)])] (.os 0 0 l.length 1) = some (zSps l) := by
  unfold bareRet
  rw [if_neg (by simp [AV.pure])]
  simp [go_sem, freeze_os]
theorem clone_sps (l : List Sp) (hl : l.length < 1000000000) (H : List Ent) (Y : List YF) : aCallFn (callS ev fs) Y .cln H (.fn 141 []) [.sl false 3 (l.map fun x => [.sc (.int .i64 x.e), .sc (.int .i64 x.f), .sc (.int .i64 x.t)])] = some (.val (.sl false 3 (l.map fun x => [.sc (.int .i64 x.e), .sc (.int .i64 x.f), .sc (.int .i64 x.t)])) H) :=
  clone_by f141_nsl (fun h => ⟨_, _, f141_gen l [] (by simpa using h) hl [], bareRet_sps l⟩) H Y
theorem f160_spec (s : Site) (hl : s.lin.length < 1000000000) (Y : List YF) : callS ev fs 160 [.agg (siteRow s)] [] Y = some (.ret (.agg (siteRow s)), []) := by
  refine callS_by f160_eq rfl ?_
  simp only [bodyOf, Go.Proofs.Try.f160, Option.getD_some]
  have hr : room s.lin.length 24 = true := room_ok (by omega) (by omega) (by omega)
  simp [go_sem, hr]
end Go.Proofs.Ytlphdiccffnckaa

