/- Layer 7: images compared. -/
import Derived.Test.YtlphdiccffnckaaImb
namespace Go.Proofs.Ytlphdiccffnckaa
open Go Go.Abs

theorem f92_spec (a b : Vol) (hl : a.length < 1000000000) (Y : List YF) : callS ev fs 92 [zVol a, zVol b] [] Y = some (.ret (zB (decide (a = b))), []) := by
  refine callS_by f92_eq rfl ?_
  simp only [bodyOf, Go.Proofs.Try.f92, Option.getD_some]
  by_cases h1 : a.length ≠ b.length
  · have hm : ¬ a = b := fun h => h1 (by rw [h])
    simp [go_sem, h1, hm, Int.ofNat_inj]
  replace h1 : a.length = b.length := by omega
  obtain ⟨R, hR⟩ := fold_loop (E := ev) (C := callS ev fs) (Y := Y) (w := {}) (a := (loopsOf (bodyOf Go.Proofs.Try.f92))[0]?.getD .skip) (b := 0) 
    a (fun i (_ : Unit) x => if some x = b[i]? then .inl () else .inr ()) () (ex := fun _ => .ret)
    (fun i _ => Live [(0, zVol a), (1, zVol b), (5, zI i)] [] 0) (fun _ => Live [] [] 0) (fun _ => Live [(4, zB false)] [] 0)
    (fun i s st hi h => by
      obtain ⟨tm, H, b⟩ := st
      simp only [bodyOf, Go.Proofs.Try.f92, Option.getD_some, loopsOf, rangesOf, List.nil_append, List.append_nil, List.cons_append, List.getElem?_cons_zero, List.getElem?_cons_succ]
      simp only [go_sem] at h
      obtain ⟨h0, h1', h5, rfl, rfl⟩ := h
      have hib : i < b.length := by omega
      by_cases hp : a[i] = b[i]
      · simp [go_sem, h0, h1', h5, hi, hib, hp, show i < 1000000000 by omega]
      · simp [go_sem, h0, h1', h5, hi, hib, hp])
    (fun s st h => by
      obtain ⟨tm, H, b⟩ := st
      simp only [bodyOf, Go.Proofs.Try.f92, Option.getD_some, loopsOf, rangesOf, List.nil_append, List.append_nil, List.cons_append, List.getElem?_cons_zero, List.getElem?_cons_succ]
      simp only [go_sem] at h
      obtain ⟨h0, h1', h5, rfl, rfl⟩ := h
      simp [go_sem, h0, h1', h5])
    (fun _ h => by cases h)
  simp only [bodyOf, Go.Proofs.Try.f92, Option.getD_some, loopsOf, rangesOf, List.nil_append, List.append_nil, List.cons_append, List.getElem?_cons_zero, List.getElem?_cons_succ] at hR
  rw [foldE_eq b a 0 (by omega), List.drop_zero] at hR
  by_cases hab : a = b
  · simp [go_sem, hab] at hR
    simp [go_sem, hab, hR]
  · simp [go_sem, hab] at hR
    simp [go_sem, hab, h1, hR]

theorem f25_spec (a b : Img) (hl : a.length < 1000000000) (hv : ∀ v ∈ a, v.length < 1000000000) (Y : List YF) : callS ev fs 25 [zImg a, zImg b] [] Y = some (.ret (zB (decide (a = b))), []) := by
  refine callS_by f25_eq rfl ?_
  simp only [bodyOf, Go.Proofs.Try.f25, Option.getD_some]
  by_cases h1 : a.length ≠ b.length
  · have hm : ¬ a = b := fun h => h1 (by rw [h])
    simp [go_sem, h1, hm, Int.ofNat_inj]
  replace h1 : a.length = b.length := by omega
  obtain ⟨R, hR⟩ := fold_loop (E := ev) (C := callS ev fs) (Y := Y) (w := {}) (a := (loopsOf (bodyOf Go.Proofs.Try.f25))[0]?.getD .skip) (b := 0) 
    a (fun i (_ : Unit) x => if some x = b[i]? then .inl () else .inr ()) () (ex := fun _ => .ret)
    (fun i _ => Live [(0, zImg a), (1, zImg b), (5, zI i)] [] 0) (fun _ => Live [] [] 0) (fun _ => Live [(4, zB false)] [] 0)
    (fun i s st hi h => by
      obtain ⟨tm, H, b⟩ := st
      simp only [bodyOf, Go.Proofs.Try.f25, Option.getD_some, loopsOf, rangesOf, List.nil_append, List.append_nil, List.cons_append, List.getElem?_cons_zero, List.getElem?_cons_succ]
      simp only [go_sem] at h
      obtain ⟨h0, h1', h5, rfl, rfl⟩ := h
      have hib : i < b.length := by omega
      have hc := f92_spec a[i] b[i] (hv _ (List.getElem_mem hi)) []
      simp only [go_sem] at hc
      by_cases hp : a[i] = b[i]
      · simp [hp] at hc
        simp [go_sem, h0, h1', h5, hi, hib, hp, hc, show i < 1000000000 by omega]
      · simp [hp] at hc
        simp [go_sem, h0, h1', h5, hi, hib, hp, hc])
    (fun s st h => by
      obtain ⟨tm, H, b⟩ := st
      simp only [bodyOf, Go.Proofs.Try.f25, Option.getD_some, loopsOf, rangesOf, List.nil_append, List.append_nil, List.cons_append, List.getElem?_cons_zero, List.getElem?_cons_succ]
      simp only [go_sem] at h
      obtain ⟨h0, h1', h5, rfl, rfl⟩ := h
      simp [go_sem, h0, h1', h5])
    (fun _ h => by cases h)
  simp only [bodyOf, Go.Proofs.Try.f25, Option.getD_some, loopsOf, rangesOf, List.nil_append, List.append_nil, List.cons_append, List.getElem?_cons_zero, List.getElem?_cons_succ] at hR
  rw [foldE_eq b a 0 (by omega), List.drop_zero] at hR
  by_cases hab : a = b
  · simp [go_sem, hab] at hR
    simp [go_sem, hab, hR]
  · simp [go_sem, hab] at hR
    simp [go_sem, hab, h1, hR]

theorem few_len {im : Img} (h : mFew im = true) : im.length ≤ 9 ∧ ∀ v ∈ im, v.length ≤ 24 := by
  simpa [mFew] using h

theorem f22_spec (Y : List YF) : callN ev fs 40 22 [] [] [] = some (.ret (zB true), []) := by kernel_rfl
theorem f22_call : callS ev fs 22 [] [] [] = some (.ret (zB true), []) := callS_iff.2 ⟨40, f22_spec []⟩

theorem f25_nil' : callN ev fs 10 25 [.sc (.slice none 0 0), .sc (.slice none 0 0)] [] [] = some (.ret (zB true), []) := by kernel_rfl
theorem f25_nil : callS ev fs 25 [.sc (.slice none 0 0), .sc (.slice none 0 0)] [] [] = some (.ret (zB true), []) := callS_iff.2 ⟨10, f25_nil'⟩

theorem zSecs_len (n : Int) : (zSecs n).length = n.toNat := by simp [zSecs]

theorem f3_spec (sizes : List Int) (im : Img) : callS ev fs 3 [zInts sizes, zImg im] [] [] = some (.ret (zB true), []) := by
  refine callS_by f3_eq rfl ?_
  simp only [bodyOf, Go.Proofs.Try.f3, Option.getD_some]
  have hw := f22_call
  have h19 := f19_spec im []
  simp only [go_sem] at hw h19
  cases hf : mFew im
  · simp [go_sem, h19, hf, hw]
  obtain ⟨i1, i2⟩ := few_len hf
  by_cases h1 : 20 < sizes.length
  · simp [go_sem, h19, hf, hw, h1]
  have h20 := f20_spec sizes 21 [] (fun n => decide (100 < n) && decide (n < 4096)) rfl (by omega) (fun x _ => f21_spec x []) []
  simp only [go_sem] at h20
  cases ha : sizes.any (fun n => decide (100 < n) && decide (n < 4096))
  case true =>
    rw [ha] at h20
    simp [go_sem, h19, hf, hw, h1, h20]
  rw [ha] at h20
  have h23 := f23_spec sizes []
  have h24 := f24_spec sizes []
  have h26 := f26_spec im (by omega) []
  have h27 := f27_spec im (by omega) []
  by_cases h0 : mSizes sizes = 0
  · obtain ⟨q1, q2, q3⟩ := mSizes_zero h0
    have h25 := f25_spec (sizes.map zSecs) (sizes.map zSecs) (by simp; omega) (fun v hv => by
      obtain ⟨n, hn, rfl⟩ := List.mem_map.1 hv
      rw [zSecs_len]
      have := q3 n hn
      omega) []
    simp only [go_sem, mNew, h0, if_true, List.map_map] at h23 h24 h25 h26 h27
    simp [go_sem, h19, hf, hw, h1, h20, h23, h24, h25, h26, h27]
  · have h25 := f25_nil
    simp only [go_sem, mNew, h0, if_false, List.map_map] at h23 h24 h25 h26 h27
    simp [go_sem, h19, hf, hw, h1, h20, h23, h24, h25, h26, h27]
end Go.Proofs.Ytlphdiccffnckaa
