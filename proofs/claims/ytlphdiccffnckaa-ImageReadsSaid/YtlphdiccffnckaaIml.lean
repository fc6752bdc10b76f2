/- Layer 7: Same, Patch. -/
import Derived.Test.YtlphdiccffnckaaImk
namespace Go.Proofs.Ytlphdiccffnckaa
open Go Go.Abs

theorem f38_spec (a b : Vol) (hl : a.length < 1000000000) (Y : List YF) : callS ev fs 38 [zVol a, zVol b] [] Y = some (.ret (zB (decide (a = b))), []) := by
  refine callS_by f38_eq rfl ?_
  simp only [bodyOf, Go.Proofs.Try.f38, Option.getD_some]
  by_cases h1 : a.length ≠ b.length
  · have hm : ¬ a = b := fun h => h1 (by rw [h])
    simp [go_sem, h1, hm, Int.ofNat_inj]
  replace h1 : a.length = b.length := by omega
  obtain ⟨R, hR⟩ := fold_loop (E := ev) (C := callS ev fs) (Y := Y) (w := {}) (a := (loopsOf (bodyOf Go.Proofs.Try.f38))[0]?.getD .skip) (b := 0) 
    a (fun i (_ : Unit) x => if some x = b[i]? then .inl () else .inr ()) () (ex := fun _ => .ret)
    (fun i _ => Live [(0, zVol a), (1, zVol b), (12, zI a.length), (13, zI i)] [] 0) (fun _ => Live [] [] 0) (fun _ => Live [(4, zB false)] [] 0)
    (fun i s st hi h => by
      obtain ⟨tm, H, b⟩ := st
      simp only [bodyOf, Go.Proofs.Try.f38, Option.getD_some, loopsOf, rangesOf, List.nil_append, List.append_nil, List.cons_append, List.getElem?_cons_zero, List.getElem?_cons_succ]
      simp only [go_sem] at h
      obtain ⟨h0, h1', h12, h13, rfl, rfl⟩ := h
      have hib : i < b.length := by omega
      by_cases hp : a[i] = b[i] <;> simp [go_sem, h0, h1', h12, h13, hi, hib, hp, show i < 1000000000 by omega])
    (fun s st h => by
      obtain ⟨tm, H, b⟩ := st
      simp only [bodyOf, Go.Proofs.Try.f38, Option.getD_some, loopsOf, rangesOf, List.nil_append, List.append_nil, List.cons_append, List.getElem?_cons_zero, List.getElem?_cons_succ]
      simp only [go_sem] at h
      obtain ⟨h0, h1', h12, h13, rfl, rfl⟩ := h
      simp [go_sem, h12, h13])
    (fun _ h => by cases h)
  simp only [bodyOf, Go.Proofs.Try.f38, Option.getD_some, loopsOf, rangesOf, List.nil_append, List.append_nil, List.cons_append, List.getElem?_cons_zero, List.getElem?_cons_succ] at hR
  rw [foldE_eq b a 0 (by omega), List.drop_zero] at hR
  by_cases hab : a = b
  · simp [go_sem, hab] at hR
    simp [go_sem, hab, hR]
  · simp [go_sem, hab] at hR
    simp [go_sem, hab, h1, hR]

theorem f108_spec (a b : Img) (hl : a.length < 1000000000) (hx : ∀ x ∈ a, x.length < 1000000000) (Y : List YF) : callS ev fs 108 [zImg a, zImg b, .fn 38 []] [] Y = some (.ret (zB (decide (a = b))), []) := by
  refine callS_by f108_eq rfl ?_
  simp only [bodyOf, Go.Proofs.Try.f108, Option.getD_some]
  by_cases h1 : a.length ≠ b.length
  · have hm : ¬ a = b := fun h => h1 (by rw [h])
    simp [go_sem, h1, hm, Int.ofNat_inj]
  replace h1 : a.length = b.length := by omega
  obtain ⟨R, hR⟩ := fold_loop (E := ev) (C := callS ev fs) (Y := Y) (w := {}) (a := (loopsOf (bodyOf Go.Proofs.Try.f108))[0]?.getD .skip) (b := 0) 
    a (fun i (_ : Unit) x => if some x = b[i]? then .inl () else .inr ()) () (ex := fun _ => .ret)
    (fun i _ => Live [(1, zImg b), (2, .fn 38 []), (15, zImg a), (16, zI a.length), (17, zI i)] [] 0) (fun _ => Live [] [] 0) (fun _ => Live [(6, zB false)] [] 0)
    (fun i s st hi h => by
      obtain ⟨tm, H, b⟩ := st
      simp only [bodyOf, Go.Proofs.Try.f108, Option.getD_some, loopsOf, rangesOf, List.nil_append, List.append_nil, List.cons_append, List.getElem?_cons_zero, List.getElem?_cons_succ]
      simp only [go_sem] at h
      obtain ⟨h1', h2, h15, h16, h17, rfl, rfl⟩ := h
      have hib : i < b.length := by omega
      have hc := f38_spec a[i] b[i] (hx _ (List.getElem_mem hi)) []
      simp only [go_sem] at hc
      by_cases hp : a[i] = b[i]
      · simp [hp] at hc
        simp [go_sem, h1', h2, h15, h16, h17, hi, hib, hp, hc, show i < 1000000000 by omega]
      · simp [hp] at hc
        simp [go_sem, h1', h2, h15, h16, h17, hi, hib, hp, hc])
    (fun s st h => by
      obtain ⟨tm, H, b⟩ := st
      simp only [bodyOf, Go.Proofs.Try.f108, Option.getD_some, loopsOf, rangesOf, List.nil_append, List.append_nil, List.cons_append, List.getElem?_cons_zero, List.getElem?_cons_succ]
      simp only [go_sem] at h
      obtain ⟨h1', h2, h15, h16, h17, rfl, rfl⟩ := h
      simp [go_sem, h16, h17])
    (fun _ h => by cases h)
  simp only [bodyOf, Go.Proofs.Try.f108, Option.getD_some, loopsOf, rangesOf, List.nil_append, List.append_nil, List.cons_append, List.getElem?_cons_zero, List.getElem?_cons_succ] at hR
  rw [foldE_eq b a 0 (by omega), List.drop_zero] at hR
  by_cases hab : a = b
  · simp [go_sem, hab] at hR
    simp [go_sem, hab, hR]
  · simp [go_sem, hab] at hR
    simp [go_sem, hab, h1, hR]

theorem f42_spec (a b : Img) (hl : a.length < 1000000000) (hx : ∀ x ∈ a, x.length < 1000000000) (Y : List YF) : callS ev fs 42 [zImg a, zImg b] [] Y = some (.ret (zB (decide (a = b))), []) := by
  refine callS_by f42_eq rfl ?_
  simp only [bodyOf, Go.Proofs.Try.f42, Option.getD_some]
  have h := f108_spec a b hl hx []
  simp only [go_sem] at h
  simp [go_sem, h]

theorem f109_spec (a b : Vol) (hl : a.length < 1000000000) (Y : List YF) : callS ev fs 109 [zVol a, zVol b] [] Y = some (.ret (zB (decide (a = b))), []) := by
  refine callS_by f109_eq rfl ?_
  simp only [bodyOf, Go.Proofs.Try.f109, Option.getD_some]
  by_cases h1 : a.length ≠ b.length
  · have hm : ¬ a = b := fun h => h1 (by rw [h])
    simp [go_sem, h1, hm, Int.ofNat_inj]
  replace h1 : a.length = b.length := by omega
  obtain ⟨R, hR⟩ := fold_loop (E := ev) (C := callS ev fs) (Y := Y) (w := {}) (a := (loopsOf (bodyOf Go.Proofs.Try.f109))[0]?.getD .skip) (b := 0) 
    a (fun i (_ : Unit) x => if some x = b[i]? then .inl () else .inr ()) () (ex := fun _ => .ret)
    (fun i _ => Live [(0, zVol a), (1, zVol b), (5, zI i)] [] 0) (fun _ => Live [] [] 0) (fun _ => Live [(4, zB false)] [] 0)
    (fun i s st hi h => by
      obtain ⟨tm, H, b⟩ := st
      simp only [bodyOf, Go.Proofs.Try.f109, Option.getD_some, loopsOf, rangesOf, List.nil_append, List.append_nil, List.cons_append, List.getElem?_cons_zero, List.getElem?_cons_succ]
      simp only [go_sem] at h
      obtain ⟨h0, h1', h5, rfl, rfl⟩ := h
      have hib : i < b.length := by omega
      by_cases hp : a[i] = b[i] <;> simp [go_sem, h0, h1', h5, hi, hib, hp, show i < 1000000000 by omega])
    (fun s st h => by
      obtain ⟨tm, H, b⟩ := st
      simp only [bodyOf, Go.Proofs.Try.f109, Option.getD_some, loopsOf, rangesOf, List.nil_append, List.append_nil, List.cons_append, List.getElem?_cons_zero, List.getElem?_cons_succ]
      simp only [go_sem] at h
      obtain ⟨h0, h1', h5, rfl, rfl⟩ := h
      simp [go_sem, h0, h1', h5])
    (fun _ h => by cases h)
  simp only [bodyOf, Go.Proofs.Try.f109, Option.getD_some, loopsOf, rangesOf, List.nil_append, List.append_nil, List.cons_append, List.getElem?_cons_zero, List.getElem?_cons_succ] at hR
  rw [foldE_eq b a 0 (by omega), List.drop_zero] at hR
  by_cases hab : a = b
  · simp [go_sem, hab] at hR
    simp [go_sem, hab, hR]
  · simp [go_sem, hab] at hR
    simp [go_sem, hab, h1, hR]

theorem f43_eq : fs 43 = some (mkFn {} Go.Proofs.Try.f43 (bodyOf Go.Proofs.Try.f43)) := by kernel_rfl
/-- The same writes are found to be the same. -/
theorem f43_same (l : List Wr) (hl : l.length < 1000000000) (hx : ∀ w ∈ l, w.d.length < 1000000000) (Y : List YF) : callS ev fs 43 [zWrs l, zWrs l] [] Y = some (.ret (zB true), []) := by
  refine callS_by f43_eq rfl ?_
  simp only [bodyOf, Go.Proofs.Try.f43, Option.getD_some]
  obtain ⟨R, hR⟩ := fold_loop (E := ev) (C := callS ev fs) (Y := Y) (w := {}) (a := (loopsOf (bodyOf Go.Proofs.Try.f43))[0]?.getD .skip) (b := 0) 
    l (fun _ (_ : Unit) (_ : Wr) => .inl ()) () (ex := fun (r : Empty) => nomatch r)
    (fun i _ => Live [(0, zWrs l), (1, zWrs l), (5, zI i)] [] 0) (fun _ => Live [] [] 0) (fun r => nomatch r)
    (fun i s st hi h => by
      obtain ⟨tm, H, b⟩ := st
      simp only [bodyOf, Go.Proofs.Try.f43, Option.getD_some, loopsOf, rangesOf, List.nil_append, List.append_nil, List.cons_append, List.getElem?_cons_zero, List.getElem?_cons_succ]
      simp only [go_sem] at h
      obtain ⟨h0, h1', h5, rfl, rfl⟩ := h
      have hc := f109_spec l[i].d l[i].d (hx _ (List.getElem_mem hi)) []
      simp only [go_sem, decide_true] at hc
      simp [go_sem, h0, h1', h5, hi, hc, show i < 1000000000 by omega])
    (fun s st h => by
      obtain ⟨tm, H, b⟩ := st
      simp only [bodyOf, Go.Proofs.Try.f43, Option.getD_some, loopsOf, rangesOf, List.nil_append, List.append_nil, List.cons_append, List.getElem?_cons_zero, List.getElem?_cons_succ]
      simp only [go_sem] at h
      obtain ⟨h0, h1', h5, rfl, rfl⟩ := h
      simp [go_sem, h0, h1', h5])
    (fun r => nomatch r)
  simp only [bodyOf, Go.Proofs.Try.f43, Option.getD_some, loopsOf, rangesOf, List.nil_append, List.append_nil, List.cons_append, List.getElem?_cons_zero, List.getElem?_cons_succ] at hR
  rw [show (fun (_ : Nat) (_ : Unit) (_ : Wr) => (Sum.inl () : Unit ⊕ Empty)) = fun _ s x => Sum.inl ((fun (s : Unit) (_ : Wr) => s) s x) from rfl, foldE_fold] at hR
  simp [go_sem] at hR
  simp [go_sem, hR]
theorem f43_nil' : callN ev fs 10 43 [.sc (.slice none 0 0), .sc (.slice none 0 0)] [] [] = some (.ret (zB true), []) := by kernel_rfl
theorem f43_nil : callS ev fs 43 [.sc (.slice none 0 0), .sc (.slice none 0 0)] [] [] = some (.ret (zB true), []) := callS_iff.2 ⟨10, f43_nil'⟩
end Go.Proofs.Ytlphdiccffnckaa
