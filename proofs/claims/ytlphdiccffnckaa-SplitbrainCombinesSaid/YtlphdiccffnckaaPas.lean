/- Texts put together: Iol. -/
import Derived.Test.YtlphdiccffnckaaPar

/- Layer 54: the law SplitbrainCombines. -/
namespace Go.Proofs.Ytlphdiccffnckaa
open Go Go.Abs

theorem secAt_choose {q : Sec → Sec → Sec → Sec} {a b c : Img} {i k : Nat} {x y z : Sec} (h1 : secAt a i k = some x) (h2 : secAt b i k = some y) (h3 : secAt c i k = some z) : secAt (choose q a b c) i k = some (q x y z) := by
  unfold secAt at *
  obtain ⟨va, e1, f1⟩ := Option.bind_eq_some_iff.1 h1
  obtain ⟨vb, e2, f2⟩ := Option.bind_eq_some_iff.1 h2
  obtain ⟨vc, e3, f3⟩ := Option.bind_eq_some_iff.1 h3
  simp [choose, pick3, List.getElem?_zipWith, List.getElem?_zip_eq_some, List.zip, e1, e2, e3, f1, f2, f3]

theorem f17_spec (c : Img) (A B : List Wr) (Y : List YF) : callS ev fs 17 [zImg c, .agg [zWrs A, zWrs B]] [] Y = some (.ret (zB true), []) := by
  refine callS_by f17_eq rfl ?_
  simp only [bodyOf, Go.Proofs.Try.f17, Option.getD_some]
  have hw := f61_call
  have h19 := f19_spec c []
  have h80a := f80_spec A []
  have h80b := f80_spec B []
  simp only [go_sem] at hw h19 h80a h80b
  cases c1 : mFew c
  · simp [go_sem, h19, c1, hw]
  cases c2 : mFew22 A
  · simp [go_sem, h19, h80a, c1, c2, hw]
  cases c3 : mFew22 B
  · simp [go_sem, h19, h80a, h80b, c1, c2, c3, hw]
  obtain ⟨i1, i2⟩ := few_len c1
  obtain ⟨j1, j2⟩ := few22 c2
  obtain ⟨k1, k2⟩ := few22 c3
  have h31a := f31_spec c A (by omega) (by omega) (fun w hw => by have := j2 w hw; omega) []
  have h31b := f31_spec c B (by omega) (by omega) (fun w hw => by have := k2 w hw; omega) []
  by_cases c0 : ¬ mCheck c = 0
  · simp only [zApply, c0, if_false, go_sem] at h31a h31b
    simp [go_sem, h19, h80a, h80b, c1, c2, c3, hw, h31a, h31b, c0]
  replace c0 : mCheck c = 0 := Decidable.not_not.1 c0
  simp only [zApply, c0, if_true] at h31a h31b
  cases ra : mApply c A with
  | inr r =>
    obtain ⟨n, e⟩ := r
    have he := (mApply_err A 0 c n e ra).1
    cases rb : mApply c B with
    | inr r2 =>
      simp only [ra, rb, go_sem] at h31a h31b
      simp [go_sem, h19, h80a, h80b, c1, c2, c3, hw, h31a, h31b, he]
    | inl b =>
      simp only [ra, rb, go_sem] at h31a h31b
      simp [go_sem, h19, h80a, h80b, c1, c2, c3, hw, h31a, h31b, he]
  | inl a =>
  cases rb : mApply c B with
  | inr r =>
    obtain ⟨n, e⟩ := r
    have he := (mApply_err B 0 c n e rb).1
    simp only [ra, rb, go_sem] at h31a h31b
    simp [go_sem, h19, h80a, h80b, c1, c2, c3, hw, h31a, h31b, he]
  | inl b =>
  have s1 : a.map List.length = c.map List.length := mApply_sizes A 0 c a rfl ra
  have s2 : b.map List.length = c.map List.length := mApply_sizes B 0 c b rfl rb
  have ca := mCheck_sizes s1
  have cb := mCheck_sizes s2
  have t0 : mThree a b c = 0 := by simp [mThree, ca, cb, c0, s1, s2]
  have t1 : mThree b a c = 0 := three_comm t0
  have t2 : mThree a c c = 0 := by simp [mThree, ca, c0, s1]
  have t3 : mThree c a c = 0 := by simp [mThree, ca, c0, s1]
  have la := sizes_len s1
  have lb := sizes_len s2
  have m1 := f74_spec a b c (by omega) (by omega) (by omega) []
  have m2 := f74_spec b a c (by omega) (by omega) (by omega) []
  have m3 := f74_spec a c c (by omega) (by omega) (by omega) []
  have m4 := f74_spec c a c (by omega) (by omega) (by omega) []
  simp only [zMerge, zConf, t0, t1, t2, t3, if_true, choose_left s1, choose_right s1, conf_comm s1 s2] at m1 m2 m3 m4
  obtain ⟨cl8, cb4⟩ := confs_len a b c t0
  have h76 := f76_spec (conf a b c) (conf a b c) (by omega) (fun x hx => by have := cb4 x hx; omega) []
  have h42 := f42_spec a a (by omega) (fun x hx => by have := sizes_mem s1 i2 x hx; omega) []
  have z1 := choose_sizes (q := merge1) s1 s2
  have z2 := choose_sizes (q := merge1) s2 s1
  have n1 := conf_none s1 rfl (.inr rfl)
  have n2 := conf_none rfl s1 (.inl rfl)
  have cl1 : (conf a c c).length = c.length := by simp [conf, choose, List.length_zip, la]
  have cl2 : (conf c a c).length = c.length := by simp [conf, choose, List.length_zip, la]
  have cl : (conf a b c).length = c.length := by simp [conf, choose, List.length_zip, la, lb]
  have hx0 : ∀ x ∈ conf a b c, ∀ e ∈ x, 0 ≤ e.s := by
    intro x hx e he
    obtain ⟨i, hi, rfl⟩ := List.getElem_of_mem hx
    have hic : i < c.length := by omega
    simp only [conf, choose, List.getElem_zipWith, List.getElem_zip] at he
    have h1 := sizes_get s1 (show i < a.length by omega) hic
    have h2 := sizes_get s2 (show i < b.length by omega) hic
    exact (mExt_ok (by rw [pick3_len h1 h2, pick3_len h1 h2]) e he).1
  have hcc : ∀ i k x y z, secAt a i k = some x → secAt b i k = some y → secAt c i k = some z → ((conf a b c)[i]?).map (fun w => w.any fun x => decide (x.s ≤ k ∧ (k : Int) - x.s < x.n)) = some (inConf x y z) := by
    intro i k x y z e1 e2 e3
    unfold secAt at e1 e2 e3
    obtain ⟨va, p1, r1⟩ := Option.bind_eq_some_iff.1 e1
    obtain ⟨vb, p2, r2⟩ := Option.bind_eq_some_iff.1 e2
    obtain ⟨vc, p3, r3⟩ := Option.bind_eq_some_iff.1 e3
    obtain ⟨ia, rfl⟩ := List.getElem?_eq_some_iff.1 p1
    obtain ⟨ib, rfl⟩ := List.getElem?_eq_some_iff.1 p2
    obtain ⟨ic, rfl⟩ := List.getElem?_eq_some_iff.1 p3
    obtain ⟨ka, rfl⟩ := List.getElem?_eq_some_iff.1 r1
    obtain ⟨kb, rfl⟩ := List.getElem?_eq_some_iff.1 r2
    obtain ⟨kc, rfl⟩ := List.getElem?_eq_some_iff.1 r3
    rw [List.getElem?_eq_getElem (by omega)]
    simp only [Option.map_some, Option.some.injEq]
    rw [any_cov]
    simp only [conf, choose, List.getElem_zipWith, List.getElem_zip]
    exact conf_cov (sizes_get s1 ia ic) (sizes_get s2 ib ic) kc
  obtain ⟨R, hR⟩ := f17_loop a b c (choose merge1 a b c) (choose merge1 b a c) (conf a b c) (conf a c c) (conf c a c) i1 i2 s1 s2 z1 z2 cl cl1 cl2 (fun x hx => by have := cb4 x hx; omega) hx0
    (fun i k x y z e1 e2 e3 => secAt_choose e1 e2 e3) (fun i k x y z e1 e2 e3 => secAt_choose e2 e1 e3) hcc n1 n2 (zWrs A) (zWrs B) ⟨rfl, rfl⟩ Y
  have lm := sizes_len z1
  have lo := sizes_len z2
  generalize choose merge1 a b c = m at *
  generalize choose merge1 b a c = o at *
  generalize conf a b c = l at *
  generalize conf a c c = nn1 at *
  generalize conf c a c = nn2 at *
  simp only [ra, rb] at h31a h31b
  simp only [go_sem, decide_true] at h31a h31b m1 m2 m3 m4 h76 h42
  simp only [bodyOf, Go.Proofs.Try.f17, Option.getD_some, loopsOf, rangesOf, List.nil_append, List.append_nil, List.cons_append, List.getElem?_cons_zero, List.getElem?_cons_succ] at hR
  simp only [go_sem, and_imp] at hR
  simp [go_sem, h19, h80a, h80b, c1, c2, c3, hw, h31a, h31b, m1, m2, m3, m4, h76, h42, cl, lm, lo, hR]
end Go.Proofs.Ytlphdiccffnckaa

