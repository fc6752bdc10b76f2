/- Layer 7: the law ImageSteps. -/
import Derived.Test.YtlphdiccffnckaaImh
import Derived.Test.YtlphdiccffnckaaImj
namespace Go.Proofs.Ytlphdiccffnckaa
open Go Go.Abs

theorem diff_sym {σ : Type} (f : Nat → σ → σ) (va vb : Vol) (hab : va.length = vb.length) : ∀ (n i : Nat) (s : σ), i + n = va.length → foldE (ρ := Empty) (diffF f vb) i s (va.drop i) = foldE (diffF f va) i s (vb.drop i)
  | 0, i, s, h => by rw [List.drop_of_length_le (by omega), List.drop_of_length_le (by omega)]; rfl
  | n + 1, i, s, h => by
    have h1 : i < va.length := by omega
    have h2 : i < vb.length := by omega
    rw [List.drop_eq_getElem_cons h1, List.drop_eq_getElem_cons h2]
    simp only [foldE, diffF, List.getElem?_eq_getElem h1, List.getElem?_eq_getElem h2, Option.some.injEq]
    rw [diff_sym f va vb hab n (i + 1) _ (by omega)]
    by_cases h3 : va[i] = vb[i]
    · rw [if_pos h3, if_pos h3.symm]
    · rw [if_neg h3, if_neg (Ne.symm h3)]
theorem mExt_sym {va vb : Vol} (hab : va.length = vb.length) : mExt va vb = mExt vb va := by
  have := diff_sym extStep va vb hab va.length 0 [] (by omega)
  simp only [List.drop_zero] at this
  unfold mExt
  rw [this]
theorem mExt_len (va vb : Vol) : (mExt va vb).length ≤ va.length := by
  unfold mExt
  cases h : foldE (ρ := Empty) (diffF extStep vb) 0 [] va with
  | inl s =>
    have := (mExt_bound va vb va 0 [] s (by intro x hx; simp at hx) (by simp) h).2
    simpa using this
  | inr r => exact nomatch r
theorem zip_sym {a b : Img} (h : a.map List.length = b.map List.length) : List.zipWith mExt a b = List.zipWith mExt b a := by
  have hl := sizes_len h
  apply List.ext_getElem
  · simp [hl]
  · intro i h1 h2
    simp only [List.length_zipWith] at h1 h2
    simp only [List.getElem_zipWith]
    exact mExt_sym (sizes_get h (by omega) (by omega))

theorem mApply_shift (im : Img) (n : Nat) : ∀ (l : List Wr) (k : Nat) (c : Img), foldE (mApplyF im) (n + k) c l = match foldE (mApplyF im) k c l with
    | .inl c' => .inl c'
    | .inr r => .inr (n + r.1, r.2)
  | [], k, c => rfl
  | w :: l, k, c => by
    simp only [foldE, mApplyF]
    by_cases hf : mFits im w = 0
    · simp only [hf, if_true]
      rw [show n + k + 1 = n + (k + 1) by omega]
      exact mApply_shift im n l (k + 1) (mWr c w)
    · simp only [hf, if_false]
theorem mApplyF_sizes {c im : Img} (h : c.map List.length = im.map List.length) : mApplyF c = mApplyF im := by
  funext i d w
  unfold mApplyF
  rw [mFits_sizes h]
theorem mApply_split {im : Img} (l : List Wr) (n : Nat) (hn : n ≤ l.length) : mApply im l = match mApply im (l.take n) with
    | .inl c => (match mApply c (l.drop n) with
      | .inl c' => .inl c'
      | .inr r => .inr (n + r.1, r.2))
    | .inr r => .inr r := by
  unfold mApply
  conv => lhs; rw [← List.take_append_drop n l]
  rw [foldE_app]
  cases h : foldE (mApplyF im) 0 im (l.take n) with
  | inl c =>
    have hs := mApply_sizes _ 0 im c rfl h
    simp only [mApplyF_sizes hs]
    rw [show 0 + (l.take n).length = n + 0 by simp; omega]
    exact mApply_shift im n _ 0 c
  | inr r => rfl
theorem mCheck_sizes {c im : Img} (h : c.map List.length = im.map List.length) : mCheck c = mCheck im := by
  unfold mCheck
  have : ∀ (x : Img), (x.map fun v => (v.length : Int)) = (x.map List.length).map fun n : Nat => (n : Int) := fun x => by rw [List.map_map]; rfl
  rw [this, this, h]

theorem f6_spec (im : Img) (l : List Wr) (cut : Int) (hcut : 0 ≤ cut ∧ cut ≤ 255) (Y : List YF) : callS ev fs 6 [zImg im, zWrs l, .sc (.int .u8 cut)] [] Y = some (.ret (zB true), []) := by
  refine callS_by f6_eq rfl ?_
  simp only [bodyOf, Go.Proofs.Try.f6, Option.getD_some]
  obtain ⟨k, rfl⟩ : ∃ k : Nat, cut = k := ⟨cut.toNat, by omega⟩
  have hw := f22_call
  have h19 := f19_spec im []
  have h28 := f28_spec l []
  simp only [go_sem] at hw h19 h28
  cases hf : mFew im
  · simp [go_sem, h19, hf, hw]
  cases hg : mFewW l
  · simp [go_sem, h19, h28, hf, hg, hw]
  obtain ⟨i1, i2⟩ := few_len hf
  obtain ⟨j1, j2⟩ := fewW hg
  have i3 : ∀ x ∈ im, x.length < 1000000000 := fun x hx => by have := i2 x hx; omega
  have hkw : IntKind.wrap .i64 (k : Int) = (k : Int) := wrap64 (by omega)
  have hrem : Int.tmod (k : Int) ((l.length : Int) + 1) = ((k % (l.length + 1) : Nat) : Int) := by
    rw [← Int.natCast_succ]
    exact (Int.ofNat_tmod k (l.length + 1)).symm
  have hn : k % (l.length + 1) ≤ l.length := by have := Nat.mod_lt k (show l.length + 1 > 0 by omega); omega
  generalize k % (l.length + 1) = n at hrem hn
  have hA := f31_spec im l (by omega) (by omega) (fun w hw => by have := j2 w hw; omega) []
  have hB := f31_spec im (l.take n) (by omega) (by simp; omega) (fun w hw => by have := j2 w (List.mem_of_mem_take hw); omega) []
  have hne : ¬ ((l.length : Int) + 1 = 0) := by omega
  have hll : l.length < 1000000000 := by omega
  have htk : ∀ (f : Wr → List AV), ((l.map f).drop n).take (l.length - n) = (l.map f).drop n := fun f => List.take_of_length_le (by simp)
  by_cases h0 : ¬ mCheck im = 0
  · simp only [go_sem, zApply, h0, if_false, List.map_take] at hA hB
    by_cases hn1 : 1 > n
    · simp [go_sem, h19, h28, hf, hg, hw, hkw, hrem, hn, hne, hA, hB, h0, hll, hn1]
    · simp [go_sem, h19, h28, hf, hg, hw, hkw, hrem, hn, hne, hA, hB, h0, hll, hn1, show 0 < n by omega]
  replace h0 : mCheck im = 0 := Decidable.not_not.1 h0
  have hsp := mApply_split (im := im) l n hn
  simp only [zApply, h0, if_true] at hA hB
  cases hr : mApply im (l.take n) with
  | inr r =>
    obtain ⟨i, e⟩ := r
    rw [hr] at hsp
    obtain ⟨he, _, hin⟩ := mApply_err _ 0 im i e hr
    have hin : i < n := by simp at hin; omega
    simp only [go_sem, hr, hsp, List.map_take] at hA hB
    by_cases hn1 : 1 > n
    · omega
    · simp [go_sem, h19, h28, hf, hg, hw, hkw, hrem, hn, hne, hA, hB, he, hin, hll, hn1]
  | inl c =>
    have hs := mApply_sizes _ 0 im c rfl hr
    have hcl := sizes_len hs
    have hc0 : mCheck c = 0 := by rw [mCheck_sizes hs, h0]
    rw [hr] at hsp
    have hC := f31_spec c (l.drop n) (by omega) (by simp; omega) (fun w hw => by have := j2 w (List.mem_of_mem_drop hw); omega) []
    simp only [zApply, hc0, if_true] at hC
    cases hr2 : mApply c (l.drop n) with
    | inr r =>
      obtain ⟨i, e⟩ := r
      simp only [hr2] at hsp
      obtain ⟨he, _, hin⟩ := mApply_err _ 0 c i e hr2
      have hin : i < l.length - n := by simpa using hin
      have h25 := f25_nil
      simp only [go_sem, hr, hr2, hsp, List.map_take, List.map_drop] at hA hB hC h25
      have hsub : IntKind.wrap .i64 ((l.length : Int) - n) = ((l.length - n : Nat) : Int) := by rw [wrap64 (by omega)]; omega
      simp [go_sem, h19, h28, hf, hg, hw, hkw, hrem, hn, hne, hA, hB, hC, htk, h25, he, hll, hsub, hin, show ¬ l.length ≤ i + n by omega]
    | inl c' =>
      simp only [hr2] at hsp
      have hs2 := mApply_sizes l 0 im c' rfl hsp
      have hcl2 := sizes_len hs2
      have h25 := f25_spec c' c' (by omega) (fun v hv => by have := sizes_mem hs2 i2 v hv; omega) []
      have hp1 : mPair im c' = 0 := by simp [mPair, h0, mCheck_sizes hs2, hs2]
      have hp2 : mPair c' im = 0 := by simp [mPair, h0, mCheck_sizes hs2, hs2]
      have h34a := f34_spec im c' (by omega) (by omega) []
      have h34b := f34_spec c' im (by omega) (by omega) []
      have h35 := f35_spec (List.zipWith mExt im c') (List.zipWith mExt im c') (by simp; omega) (fun x hx => by
        obtain ⟨i, hi, rfl⟩ := List.getElem_of_mem hx
        simp only [List.length_zipWith] at hi
        rw [List.getElem_zipWith]
        have := mExt_len im[i] c'[i]
        have := i2 im[i] (List.getElem_mem _)
        omega) []
      simp only [zDiffer, hp1, hp2, if_true, zip_sym hs2] at h34a h34b
      generalize List.zipWith mExt im c' = Z at h34a h34b h35
      simp only [go_sem, hr, hr2, hsp, List.map_take, List.map_drop, decide_true] at hA hB hC h25 h34a h34b h35
      simp [go_sem, h19, h28, hf, hg, hw, hkw, hrem, hn, hne, hA, hB, hC, htk, h25, hll, h34a, h34b, h35]
end Go.Proofs.Ytlphdiccffnckaa
