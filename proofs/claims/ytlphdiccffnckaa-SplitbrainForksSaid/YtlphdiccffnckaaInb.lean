/- Layers 46 and 54: lineages in the reference; the law of forks. -/
import Derived.Test.YtlphdiccffnckaaIna
import Derived.Test.YtlphdiccffnckaaImt
namespace Go.Proofs.Ytlphdiccffnckaa
open Go Go.Abs

theorem f150_spec (l : List Sp) (hl : l.length < 1000000000) (Y : List YF) : callS ev fs 150 [zSps l] [] Y = some (.ret (zB (spOk sp0 l)), []) := by
  refine callS_by f150_eq rfl ?_
  simp only [bodyOf, Go.Proofs.Try.f150, Option.getD_some]
  obtain ⟨R, hR⟩ := fold_loop (E := ev) (C := callS ev fs) (Y := Y) (w := {}) (a := (loopsOf (bodyOf Go.Proofs.Try.f150))[0]?.getD .skip) (b := 0) 
    l spF sp0 (ex := fun _ => .ret)
    (fun i p st => spGood p ∧ (i = 0 → p = sp0) ∧ (∀ h : i - 1 < l.length, 0 < i → l[i - 1] = p) ∧ LiveT [(0, zSps l), (3, zI i)] 0 st)
    (fun p => LiveT [] 0)
    (fun _ st => st.tm.get 2 = zB false ∧ st.b = 0)
    (fun i p st hi h => by
      obtain ⟨hp, hz, hs, h⟩ := h
      obtain ⟨tm, H, b⟩ := st
      simp only [bodyOf, Go.Proofs.Try.f150, Option.getD_some, loopsOf, rangesOf, List.nil_append, List.append_nil, List.cons_append, List.getElem?_cons_zero, List.getElem?_cons_succ]
      simp only [go_sem] at h
      obtain ⟨h0, h3, rfl⟩ := h
      by_cases h00 : i = 0
      · subst h00
        obtain rfl := hz rfl
        by_cases c1 : ¬ l[0].f = 1
        · have hn : ¬ spNext sp0 l[0] := fun h => by simp only [spNext, sp0] at h; omega
          simp [go_sem, h0, h3, hi, hn, spF, c1]
        replace c1 : l[0].f = 1 := Decidable.not_not.1 c1
        by_cases c2 : l[0].t < 1
        · have hn : ¬ spNext sp0 l[0] := fun h => by simp only [spNext, sp0] at h; omega
          simp [go_sem, h0, h3, hi, hn, spF, c2, c1]
        by_cases c3 : (1073741824 : Int) < l[0].t
        · have hn : ¬ spNext sp0 l[0] := fun h => by simp only [spNext, sp0] at h; omega
          simp [go_sem, h0, h3, hi, hn, spF, c3, c1, c2]
        by_cases c4 : l[0].e < 1
        · have hn : ¬ spNext sp0 l[0] := fun h => by simp only [spNext, sp0] at h; omega
          simp [go_sem, h0, h3, hi, hn, spF, c4, c1, c2, c3]
        by_cases c5 : (1073741824 : Int) < l[0].e
        · have hn : ¬ spNext sp0 l[0] := fun h => by simp only [spNext, sp0] at h; omega
          simp [go_sem, h0, h3, hi, hn, spF, c5, c1, c2, c3, c4]
        have hn : spNext sp0 l[0] := by simp only [spNext, sp0]; omega
        have hg := spNext_good hp hn
        simp [go_sem, h0, h3, hi, hn, spF, hg, show IntKind.wrap .i64 1 = 1 by decide, c1, c2, c3, c4, c5]
      · obtain ⟨k, hki⟩ : ∃ k, i - 1 = k := ⟨i - 1, rfl⟩
        simp only [hki] at hs
        have hk : k < l.length := by omega
        obtain rfl := hs hk (by omega)
        have hk2 : (i : Int) - 1 = k := by omega
        have hk3 : 0 < i := by omega
        have hw := wrap64 (x := l[k].t + 1) (by unfold spGood at hp; omega)
        have hw2 := wrap64 (x := l[k].e + 1) (by unfold spGood at hp; omega)
        by_cases c1 : ¬ l[i].f = l[k].t + 1
        · have hn : ¬ spNext l[k] l[i] := fun h => by unfold spNext at h; omega
          simp [go_sem, h0, h3, hi, hn, spF, hk, hw, hw2, show k < 1000000000 by omega, show i < 1000000000 by omega, hk2, hk3, c1]
        replace c1 : l[i].f = l[k].t + 1 := Decidable.not_not.1 c1
        by_cases c2 : l[i].t < l[k].t + 1
        · have hn : ¬ spNext l[k] l[i] := fun h => by unfold spNext at h; omega
          simp [go_sem, h0, h3, hi, hn, spF, hk, hw, hw2, show k < 1000000000 by omega, show i < 1000000000 by omega, hk2, hk3, c2, c1]
        by_cases c3 : (1073741824 : Int) < l[i].t
        · have hn : ¬ spNext l[k] l[i] := fun h => by unfold spNext at h; omega
          simp [go_sem, h0, h3, hi, hn, spF, hk, hw, hw2, show k < 1000000000 by omega, show i < 1000000000 by omega, hk2, hk3, c3, c1, c2]
        by_cases c4 : l[i].e < l[k].e + 1
        · have hn : ¬ spNext l[k] l[i] := fun h => by unfold spNext at h; omega
          simp [go_sem, h0, h3, hi, hn, spF, hk, hw, hw2, show k < 1000000000 by omega, show i < 1000000000 by omega, hk2, hk3, c4, c1, c2, c3]
        by_cases c5 : (1073741824 : Int) < l[i].e
        · have hn : ¬ spNext l[k] l[i] := fun h => by unfold spNext at h; omega
          simp [go_sem, h0, h3, hi, hn, spF, hk, hw, hw2, show k < 1000000000 by omega, show i < 1000000000 by omega, hk2, hk3, c5, c1, c2, c3, c4]
        have hn : spNext l[k] l[i] := by unfold spGood at hp; unfold spNext; omega
        have hg := spNext_good hp hn
        simp [go_sem, h0, h3, hi, hn, spF, hk, hw, hw2, show k < 1000000000 by omega, show i < 1000000000 by omega, hk2, hk3, hg, c1, c2, c3, c4, c5])
    (fun p st h => by
      obtain ⟨hp, hz, hs, h⟩ := h
      obtain ⟨tm, H, b⟩ := st
      simp only [bodyOf, Go.Proofs.Try.f150, Option.getD_some, loopsOf, rangesOf, List.nil_append, List.append_nil, List.cons_append, List.getElem?_cons_zero, List.getElem?_cons_succ]
      simp only [go_sem] at h
      obtain ⟨h0, h3, rfl⟩ := h
      simp [go_sem, h0, h3])
    (fun _ h => by cases h)
  simp only [bodyOf, Go.Proofs.Try.f150, Option.getD_some, loopsOf, rangesOf, List.nil_append, List.append_nil, List.cons_append, List.getElem?_cons_zero, List.getElem?_cons_succ] at hR
  simp only [foldE_sp] at hR
  cases hs : spOk sp0 l
  · simp [hs, go_sem] at hR
    simp [sp0, spGood] at hR
    simp [go_sem, hR]
  · simp [hs, go_sem] at hR
    simp [sp0, spGood] at hR
    simp [go_sem, hR]

theorem f151_spec (a b : List Sp) (ha : a.length < 1000000000) (hb : b.length < 1000000000) (Y : List YF) :
    callS ev fs 151 [zSps a, zSps b] [] Y = some (.ret (.tup [zI (ancestor a b).1, zI (ancestor a b).2]), []) := by
  refine callS_by f151_eq rfl ?_
  simp only [bodyOf, Go.Proofs.Try.f151, Option.getD_some]
  have h1 := f150_spec a ha []
  have h2 := f150_spec b hb []
  simp only [go_sem] at h1 h2
  cases ca : spOk sp0 a
  · simp [go_sem, h1, ca, ancestor]
  cases cb : spOk sp0 b
  · simp [go_sem, h1, h2, ca, cb, ancestor]
  obtain ⟨R, hR⟩ := fold_loop (E := ev) (C := callS ev fs) (Y := Y) (w := {}) (a := (loopsOf (bodyOf Go.Proofs.Try.f151))[0]?.getD .skip) (b := 0) 
    (a.zip b) ancF ((0, 0) : Int × Int) (ex := fun _ => .ret)
    (fun i r st => LiveT [(0, zSps a), (1, zSps b), (6, zI r.1), (7, zI r.2), (8, zI i)] 0 st)
    (fun r st => LiveT [(6, zI r.1), (7, zI r.2)] 0 st)
    (fun r st => LiveT [(4, zI r.1), (5, zI r.2)] 0 st)
    (fun i r st hi h => by
      have hz : i < a.length ∧ i < b.length := by simpa [List.length_zip, Nat.lt_min] using hi
      obtain ⟨hia, hib⟩ := hz
      simp only [List.getElem_zip]
      obtain ⟨tm, H, b⟩ := st
      simp only [bodyOf, Go.Proofs.Try.f151, Option.getD_some, loopsOf, rangesOf, List.nil_append, List.append_nil, List.cons_append, List.getElem?_cons_zero, List.getElem?_cons_succ]
      simp only [go_sem] at h
      obtain ⟨h0, h1, h6, h7, h8, rfl⟩ := h
      by_cases c1 : ¬ a[i].e = b[i].e
      · simp [go_sem, h0, h1, h6, h7, h8, hia, hib, ancF, c1, show i < 1000000000 by omega]
      replace c1 := Decidable.not_not.1 c1
      by_cases c2 : a[i].t = b[i].t
      · simp [go_sem, h0, h1, h6, h7, h8, hia, hib, ancF, c1, c2, minI, show i < 1000000000 by omega]
      · simp [go_sem, h0, h1, h6, h7, h8, hia, hib, ancF, c1, c2, minI, show i < 1000000000 by omega])
    (fun r st h => by
      obtain ⟨tm, H, b⟩ := st
      simp only [bodyOf, Go.Proofs.Try.f151, Option.getD_some, loopsOf, rangesOf, List.nil_append, List.append_nil, List.cons_append, List.getElem?_cons_zero, List.getElem?_cons_succ]
      simp only [go_sem] at h
      obtain ⟨h0, h1, h6, h7, h8, rfl⟩ := h
      simp only [List.length_zip] at h8
      by_cases hab : a.length ≤ b.length
      · rw [Nat.min_eq_left hab] at h8
        simp [go_sem, h0, h1, h6, h7, h8]
      · rw [Nat.min_eq_right (by omega)] at h8
        simp [go_sem, h0, h1, h6, h7, h8, show b.length < a.length by omega])
    (fun _ h => by cases h)
  simp only [bodyOf, Go.Proofs.Try.f151, Option.getD_some, loopsOf, rangesOf, List.nil_append, List.append_nil, List.cons_append, List.getElem?_cons_zero, List.getElem?_cons_succ] at hR
  have hm : ancestor a b = match foldE ancF 0 (0, 0) (a.zip b) with
    | .inl r => r
    | .inr r => r := by
      simp only [ancestor, ca, cb, anc, if_true]
      cases foldE ancF 0 (0, 0) (a.zip b) <;> rfl
  rw [hm]
  cases hr : foldE ancF 0 (0, 0) (a.zip b) with
  | inl r =>
    simp only [hr] at hR
    simp [go_sem] at hR
    simp [go_sem, h1, h2, ca, cb, hR]
  | inr r =>
    simp only [hr] at hR
    simp [go_sem] at hR
    simp [go_sem, h1, h2, ca, cb, hR]

theorem f152_spec (l : List Sp) (hl : l.length < 1000000000) (Y : List YF) : callS ev fs 152 [zSps l] [] Y = some (.ret (zI (endT l)), []) := by
  refine callS_by f152_eq rfl ?_
  simp only [bodyOf, Go.Proofs.Try.f152, Option.getD_some]
  by_cases h0 : l = []
  · subst h0
    simp [go_sem, endT, sp0]
  have h0' : ¬ l.length = 0 := by simpa using h0
  have hlt : l.length - 1 < l.length := by omega
  have hi : (l.length : Int) - 1 = ((l.length - 1 : Nat) : Int) := by omega
  have he : endT l = (l[l.length - 1]).t := by simp [endT, List.getLast?_eq_getElem?, hlt]
  generalize hk : l.length - 1 = k at *
  simp [go_sem, h0, h0', hi, he, hlt, show k < 1000000000 by omega]

theorem f63_spec (a b : List Sp) (ha : a.length < 1000000000) (hb : b.length < 1000000000) (Y : List YF) :
    callS ev fs 63 [zSps a, zSps b] [] Y = some (.ret (.tup [zI (fork a b).1, zB (fork a b).2]), []) := by
  refine callS_by f63_eq rfl ?_
  simp only [bodyOf, Go.Proofs.Try.f63, Option.getD_some]
  have h1 := f150_spec a ha []
  have h2 := f150_spec b hb []
  have h3 := f151_spec a b ha hb []
  have h4 := f152_spec a ha []
  have h5 := f152_spec b hb []
  simp only [go_sem] at h1 h2 h3 h4 h5
  cases ca : spOk sp0 a
  · simp [go_sem, h1, ca, fork]
  cases cb : spOk sp0 b
  · simp [go_sem, h1, h2, ca, cb, fork]
  simp [ca, cb, ancestor] at h1 h2 h3
  by_cases h6 : (anc a b).1 < endT a
  · simp [go_sem, h1, h2, h3, h4, h5, ca, cb, fork, h6]
  · simp [go_sem, h1, h2, h3, h4, h5, ca, cb, fork, h6]

theorem f61_call : callS ev fs 61 [] [] [] = some (.ret (zB true), []) := callS_iff.2 ⟨60, by kernel_rfl⟩

theorem f13_spec (a b : List Sp) (Y : List YF) : callS ev fs 13 [zSps a, zSps b] [] Y = some (.ret (zB true), []) := by
  refine callS_by f13_eq rfl ?_
  simp only [bodyOf, Go.Proofs.Try.f13, Option.getD_some]
  have hw := f61_call
  simp only [go_sem] at hw
  by_cases h1 : 20 < a.length
  · simp [go_sem, hw, h1]
  by_cases h2 : 20 < b.length
  · simp [go_sem, hw, h1, h2]
  have h3 := f62_spec a b (by omega) (by omega) []
  have h4 := f63_spec a b (by omega) (by omega) []
  simp only [go_sem] at h3 h4
  simp [go_sem, hw, h1, h2, h3, h4]
end Go.Proofs.Ytlphdiccffnckaa
