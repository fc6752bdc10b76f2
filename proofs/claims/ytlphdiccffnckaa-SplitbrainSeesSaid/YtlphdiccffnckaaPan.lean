/- Texts put together: Imq, Ina. -/
import Derived.Test.YtlphdiccffnckaaPam

/- Layer 7: the law ImagePatches. -/
namespace Go.Proofs.Ytlphdiccffnckaa
open Go Go.Abs

@[go_sem] theorem bin_neqb {T : TT} {t : Nat} {x y : Bool} : aBin T .neq t (.sc (.bool x)) (.sc (.bool y)) = if T.bool t = true then some (.sc (.bool (!(x == y)))) else none := rfl
def covX (x : Ext) (s : Nat) : Prop := x.s ≤ s ∧ (s : Int) < x.s + x.n
def total (l : List Ext) : Int := (l.map (·.n)).sum

theorem last_split {l : List Ext} {x : Ext} (h : l.getLast? = some x) : l = l.dropLast ++ [x] := by
  rcases List.eq_nil_or_concat l with rfl | ⟨i, y, rfl⟩
  · simp at h
  · simp at h
    subst h
    simp
theorem extStep_cov (i : Nat) (out : List Ext) (s : Nat) (ho : okOut i out) : (∃ x ∈ extStep i out, covX x s) ↔ (∃ x ∈ out, covX x s) ∨ s = i := by
  unfold extStep
  cases h : out.getLast? with
  | none =>
    have : out = [] := List.getLast?_eq_none_iff.1 h
    subst this
    simp [covX]
    omega
  | some y =>
    have hs := last_split h
    have hy := ho y (List.mem_of_getLast? h)
    by_cases hc : y.s + y.n = i
    · simp only [hc, if_true]
      rw [hs]
      simp only [List.dropLast_concat, List.mem_append, List.mem_singleton, or_and_right, exists_or, exists_eq_left, covX]
      rw [or_assoc]
      apply or_congr_right
      omega
    · simp only [hc, if_false, List.mem_append, List.mem_singleton, or_and_right, exists_or, exists_eq_left, covX]
      apply or_congr_right
      omega
theorem sum_app (a b : List Int) : (a ++ b).sum = a.sum + b.sum := by
  induction a with
  | nil => simp
  | cons x a ih => simp [ih]; omega
theorem extStep_total (i : Nat) (out : List Ext) : total (extStep i out) = total out + 1 := by
  unfold extStep
  cases h : out.getLast? with
  | none =>
    have : out = [] := List.getLast?_eq_none_iff.1 h
    subst this
    simp [total]
  | some y =>
    have hs := last_split h
    by_cases hc : y.s + y.n = i
    · simp only [hc, if_true]
      conv => rhs; rw [hs]
      simp only [total, List.map_append, sum_app, List.map_cons, List.map_nil, List.sum_cons, List.sum_nil]
      omega
    · simp only [hc, if_false, total, List.map_append, sum_app, List.map_cons, List.map_nil, List.sum_cons, List.sum_nil]
      omega

theorem fold_cov (vb : Vol) : ∀ (l : Vol) (i : Nat) (out out' : List Ext), okOut i out → foldE (ρ := Empty) (diffF extStep vb) i out l = .inl out' →
    ∀ s, (∃ x ∈ out', covX x s) ↔ (∃ x ∈ out, covX x s) ∨ ∃ j, ∃ h : j < l.length, s = i + j ∧ some l[j] ≠ vb[i + j]?
  | [], i, out, out', ho, h => by
    simp only [foldE, Sum.inl.injEq] at h
    subst h
    intro s
    simp
  | y :: l, i, out, out', ho, h => by
    simp only [foldE, diffF] at h
    intro s
    by_cases hc : some y = vb[i]?
    · rw [if_pos hc] at h
      rw [fold_cov vb l (i + 1) out out' ho.mono h s]
      apply or_congr_right
      constructor
      · rintro ⟨j, hj, h1, h2⟩
        exact ⟨j + 1, by simp; omega, by omega, by rw [show i + (j + 1) = i + 1 + j by omega]; simpa using h2⟩
      · rintro ⟨j, hj, h1, h2⟩
        cases j with
        | zero => exact absurd hc (by simpa using h2)
        | succ j => exact ⟨j, by simpa using hj, by omega, by rw [show i + 1 + j = i + (j + 1) by omega]; simpa using h2⟩
    · rw [if_neg hc] at h
      rw [fold_cov vb l (i + 1) _ out' ho.step h s, extStep_cov i out s ho, or_assoc]
      apply or_congr_right
      constructor
      · rintro (h1 | ⟨j, hj, h1, h2⟩)
        · exact ⟨0, by simp, by omega, by simpa using hc⟩
        · exact ⟨j + 1, by simp; omega, by omega, by rw [show i + (j + 1) = i + 1 + j by omega]; simpa using h2⟩
      · rintro ⟨j, hj, h1, h2⟩
        cases j with
        | zero => exact .inl (by omega)
        | succ j => exact .inr ⟨j, by simpa using hj, by omega, by rw [show i + 1 + j = i + (j + 1) by omega]; simpa using h2⟩

theorem mExt_fold (va vb : Vol) : foldE (ρ := Empty) (diffF extStep vb) 0 [] va = .inl (mExt va vb) := by
  unfold mExt
  cases foldE (ρ := Empty) (diffF extStep vb) 0 [] va with
  | inl s => rfl
  | inr r => exact nomatch r
theorem mExt_cov (va vb : Vol) (s : Nat) : (∃ x ∈ mExt va vb, covX x s) ↔ ∃ h : s < va.length, some va[s] ≠ vb[s]? := by
  rw [fold_cov vb va 0 [] _ (by intro x hx; simp at hx) (mExt_fold va vb) s]
  constructor
  · rintro (⟨x, hx, _⟩ | ⟨j, hj, h1, h2⟩)
    · simp at hx
    · obtain rfl : s = j := by omega
      exact ⟨hj, by simpa using h2⟩
  · rintro ⟨h, h2⟩
    exact .inr ⟨s, h, by omega, by simpa using h2⟩

/-- How many sectors differ. -/
def dcF (vb va : Vol) (n : Nat) : Nat := match foldE (ρ := Empty) (diffF (fun _ n => n + 1) vb) 0 n va with
  | .inl m => m
theorem fold_cnt (vb : Vol) : ∀ (l : Vol) (i : Nat) (out out' : List Ext) (n : Nat), foldE (ρ := Empty) (diffF extStep vb) i out l = .inl out' →
    ∃ m : Nat, foldE (ρ := Empty) (diffF (fun _ n => n + 1) vb) i n l = .inl m ∧ total out' - total out = (m : Int) - n ∧ n ≤ m ∧ m ≤ n + l.length
  | [], i, out, out', n, h => by
    simp only [foldE, Sum.inl.injEq] at h
    subst h
    exact ⟨n, rfl, by omega, by omega, by simp⟩
  | y :: l, i, out, out', n, h => by
    simp only [foldE, diffF] at h ⊢
    by_cases hc : some y = vb[i]?
    · rw [if_pos hc] at h ⊢
      obtain ⟨m, h1, h2, h3, h4⟩ := fold_cnt vb l (i + 1) out out' n h
      exact ⟨m, h1, h2, h3, by simp; omega⟩
    · rw [if_neg hc] at h ⊢
      obtain ⟨m, h1, h2, h3, h4⟩ := fold_cnt vb l (i + 1) _ out' (n + 1) h
      rw [extStep_total] at h2
      exact ⟨m, h1, by omega, by omega, by simp; omega⟩
theorem dcF_total (va vb : Vol) (n : Nat) : (dcF vb va n : Int) = n + total (mExt va vb) ∧ dcF vb va n ≤ n + va.length := by
  obtain ⟨m, h1, h2, h3, h4⟩ := fold_cnt vb va 0 [] _ n (mExt_fold va vb)
  unfold dcF
  rw [h1]
  simp only
  simp [total] at h2
  simp only [total]
  exact ⟨by omega, h4⟩

theorem mPatch_mem (b : Img) : ∀ (Z : List (List Ext)) (i : Nat) (out W : List Wr), foldE (patchF b) i out Z = .inl W → ∀ w, w ∈ W ↔ w ∈ out ∨ ∃ j, ∃ h : j < Z.length, ∃ x ∈ Z[j], w = wrOf (i + j) ((b[i + j]?).getD []) x
  | [], i, out, W, h => by
    simp only [foldE, Sum.inl.injEq] at h
    subst h
    intro w
    simp
  | l :: Z, i, out, W, h => by
    simp only [foldE, patchF] at h
    intro w
    rw [mPatch_mem b Z (i + 1) _ W h w, List.mem_append, or_assoc]
    apply or_congr_right
    rw [List.mem_map]
    constructor
    · rintro (⟨x, hx, rfl⟩ | ⟨j, hj, x, hx, rfl⟩)
      · exact ⟨0, by simp, x, by simpa using hx, by simp⟩
      · exact ⟨j + 1, by simpa using hj, x, by simpa using hx, by rw [show i + (j + 1) = i + 1 + j by omega]⟩
    · rintro ⟨j, hj, x, hx, rfl⟩
      cases j with
      | zero => exact .inl ⟨x, by simpa using hx, by simp⟩
      | succ j => exact .inr ⟨j, by simpa using hj, x, by simpa using hx, by rw [show i + (j + 1) = i + 1 + j by omega]⟩
def dlen (W : List Wr) : Int := (W.map fun w => (w.d.length : Int)).sum
theorem wrOf_len {i : Nat} {vb : Vol} {x : Ext} (h : okExtAt vb x) : ((wrOf i vb x).d.length : Int) = x.n := by
  obtain ⟨h1, h2, h3⟩ := h
  simp only [wrOf, List.length_take, List.length_drop]
  omega
theorem dlen_map {i : Nat} {vb : Vol} : ∀ (l : List Ext), (∀ x ∈ l, okExtAt vb x) → dlen (l.map (wrOf i vb)) = total l
  | [], _ => rfl
  | x :: l, h => by
    have := dlen_map (i := i) l fun y hy => h y (List.mem_cons_of_mem _ hy)
    have h1 := wrOf_len (i := i) (h x (List.mem_cons_self ..))
    simp only [dlen, total, List.map_cons, List.sum_cons] at *
    omega
theorem mPatch_sum (b : Img) : ∀ (Z : List (List Ext)) (i : Nat) (out W : List Wr), (∀ j (h : j < Z.length), ∀ x ∈ Z[j], okExtAt ((b[i + j]?).getD []) x) → foldE (patchF b) i out Z = .inl W → dlen W = dlen out + (Z.map total).sum
  | [], i, out, W, _, h => by
    simp only [foldE, Sum.inl.injEq] at h
    subst h
    simp
  | l :: Z, i, out, W, hx, h => by
    simp only [foldE, patchF] at h
    rw [mPatch_sum b Z (i + 1) _ W (fun j hj x hm => by
      have := hx (j + 1) (by simpa using hj) x (by simpa using hm)
      rwa [show i + (j + 1) = i + 1 + j by omega] at this) h]
    have h0 := dlen_map (i := i) (vb := (b[i]?).getD []) l (fun x hm => hx 0 (by simp) x (by simpa using hm))
    simp only [dlen, List.map_append, sum_app, List.map_cons, List.sum_cons] at *
    omega

theorem fits_all {im : Img} : ∀ (l : List Wr) (i : Nat) (c : Img), (∀ w ∈ l, mFits im w = 0) → ∃ c', foldE (mApplyF im) i c l = .inl c'
  | [], i, c, _ => ⟨c, rfl⟩
  | w :: l, i, c, h => by
    simp only [foldE, mApplyF, h w (List.mem_cons_self ..), if_true]
    exact fits_all l (i + 1) _ fun u hu => h u (List.mem_cons_of_mem _ hu)
theorem foldl_want {v s : Nat} {y : Sec} : ∀ (W : List Wr) (x : Sec), (∀ w ∈ W, covers w v s = true → w.d[((s : Int) - w.s).toNat]? = some y) → ((∃ w ∈ W, covers w v s = true) ∨ x = y) → W.foldl (wantF v s) x = y
  | [], x, _, h => by
    rcases h with ⟨w, hw, _⟩ | rfl
    · simp at hw
    · rfl
  | w :: W, x, hc, h => by
    simp only [List.foldl_cons]
    by_cases hw : covers w v s = true
    · have : wantF v s x w = y := by simp [wantF, hw, hc w (List.mem_cons_self ..) hw]
      rw [this]
      exact foldl_want W y (fun u hu => hc u (List.mem_cons_of_mem _ hu)) (.inr rfl)
    · have : wantF v s x w = x := wantF_no (by simpa using hw) x
      rw [this]
      refine foldl_want W x (fun u hu => hc u (List.mem_cons_of_mem _ hu)) ?_
      rcases h with ⟨u, hu, h2⟩ | h
      · rcases List.mem_cons.1 hu with rfl | hu
        · exact absurd h2 hw
        · exact .inl ⟨u, hu, h2⟩
      · exact .inr h

theorem img_ext {c b : Img} (hs : c.map List.length = b.map List.length) (h : ∀ v s (h1 : v < c.length) (h2 : v < b.length) (h3 : s < c[v].length) (h4 : s < b[v].length), c[v][s] = b[v][s]) : c = b := by
  have hl := sizes_len hs
  apply List.ext_getElem hl
  intro v h1 h2
  apply List.ext_getElem (sizes_get hs h1 h2)
  intro s h3 h4
  exact h v s h1 h2 h3 h4

theorem patch_applies {a b : Img} (h0 : mPair a b = 0) : mApply a (mPatch a b) = .inl b := by
  obtain ⟨q1, q2, q3⟩ := mPair_zero h0
  have hl := sizes_len q3
  have hmem := mPatch_mem b _ 0 [] _ (patch_split a b)
  have hzl : (List.zipWith mExt a b).length = a.length := by simp; omega
  have hw : ∀ w ∈ mPatch a b, ∃ j, ∃ (h1 : j < a.length) (h2 : j < b.length), ∃ x ∈ mExt a[j] b[j], w = wrOf j b[j] x ∧ okExtAt b[j] x := fun w hw => by
    rcases (hmem w).1 hw with h | ⟨j, hj, x, hx, rfl⟩
    · simp at h
    · have h1 : j < a.length := by omega
      have h2 : j < b.length := by omega
      rw [List.getElem_zipWith] at hx
      exact ⟨j, h1, h2, x, hx, by simp [h2], mExt_ok (sizes_get q3 h1 h2) x hx⟩
  have hf : ∀ w ∈ mPatch a b, mFits a w = 0 := fun w hwm => by
    obtain ⟨j, h1, h2, x, hx, rfl, hok⟩ := hw w hwm
    have hlen := wrOf_len (i := j) hok
    have hsz := sizes_get q3 h1 h2
    obtain ⟨o1, o2, o3⟩ := hok
    unfold mFits
    rw [if_neg (by simp only [wrOf]; omega), if_neg (by intro he; rw [he] at hlen; simp at hlen; omega), if_neg]
    rw [show (wrOf j b[j] x).v.toNat = j by simp [wrOf], List.getElem?_eq_getElem h1, Option.getD_some, hlen]
    simp only [wrOf]
    omega
  obtain ⟨c, hc⟩ := fits_all (im := a) (mPatch a b) 0 a hf
  have hs := mApply_sizes _ 0 a c rfl hc
  obtain ⟨_, hat⟩ := mApply_at _ 0 a c rfl hc
  have : c = b := img_ext (hs.trans q3) fun v s h1 h2 h3 h4 => by
    have hv : v < a.length := by have := sizes_len hs; omega
    have hsa : s < a[v].length := by have := sizes_get hs h1 hv; omega
    have hcs : c[v][s] = (mPatch a b).foldl (wantF v s) a[v][s] := by
      have := hat v s
      simpa [secAt, h1, h3, hv, hsa] using this
    rw [hcs]
    refine foldl_want _ _ (fun w hwm hcv => ?_) ?_
    · obtain ⟨j, g1, g2, x, hx, rfl, hok⟩ := hw w hwm
      have hlen := wrOf_len (i := j) hok
      obtain ⟨o1, o2, o3⟩ := hok
      simp only [covers, Bool.and_eq_true, decide_eq_true_eq, hlen] at hcv
      obtain ⟨⟨c1, c2⟩, c3⟩ := hcv
      simp only [wrOf] at c1 c2 c3 ⊢
      have hjv : j = v := by omega
      subst hjv
      rw [List.getElem?_take, if_pos (by omega), List.getElem?_drop, show x.s.toNat + ((s : Int) - x.s).toNat = s by omega]
      exact List.getElem?_eq_getElem h4
    · by_cases he : a[v][s] = b[v][s]
      · exact .inr he
      · obtain ⟨x, hx, hcx⟩ := (mExt_cov a[v] b[v] s).2 ⟨hsa, by rw [List.getElem?_eq_getElem h4]; simpa using he⟩
        have hok := mExt_ok (sizes_get q3 hv h2) x hx
        refine .inl ⟨wrOf v b[v] x, (hmem _).2 (.inr ⟨v, by omega, x, by rw [List.getElem_zipWith]; exact hx, by simp [h2]⟩), ?_⟩
        have hlen := wrOf_len (i := v) hok
        simp only [covers, Bool.and_eq_true, decide_eq_true_eq, hlen]
        obtain ⟨c1, c2⟩ := hcx
        exact ⟨⟨rfl, c1⟩, by show (s : Int) - x.s < x.n; omega⟩
  show foldE (mApplyF a) 0 a (mPatch a b) = .inl b
  rw [hc, this]

theorem patch_nil {a b : Img} (h0 : mPair a b = 0) : mPatch a b = [] ↔ a = b := by
  constructor
  · intro h
    have := patch_applies h0
    rw [h] at this
    exact Sum.inl.inj this
  · rintro rfl
    apply List.eq_nil_iff_forall_not_mem.2
    intro w hw
    rcases (mPatch_mem a _ 0 [] _ (patch_split a a) w).1 hw with h | ⟨j, hj, x, hx, rfl⟩
    · simp at h
    · have h1 : j < a.length := by simpa using hj
      rw [List.getElem_zipWith] at hx
      obtain ⟨o1, o2, o3⟩ := mExt_ok rfl x hx
      obtain ⟨h, h2⟩ := (mExt_cov a[j] a[j] x.s.toNat).1 ⟨x, hx, by simp only [covX]; omega⟩
      exact h2 (List.getElem?_eq_getElem h).symm

theorem dcF_fold (vb va : Vol) (n : Nat) : foldE (ρ := Empty) (diffF (fun _ n => n + 1) vb) 0 n va = .inl (dcF vb va n) := by
  unfold dcF
  cases foldE (ρ := Empty) (diffF (fun _ n => n + 1) vb) 0 n va with
  | inl s => rfl
  | inr r => exact nomatch r
theorem cnt_outer (b : Img) : ∀ (l : Img) (i n : Nat), l.length + i = b.length → ∃ N : Nat, foldE (ρ := Empty) (fun i n va => .inl (dcF ((b[i]?).getD []) va n)) i n l = .inl N ∧ (N : Int) = n + ((List.zipWith mExt l (b.drop i)).map total).sum
  | [], i, n, _ => ⟨n, rfl, by simp⟩
  | va :: l, i, n, h => by
    have hlt : i < b.length := by simp at h; omega
    simp only [foldE]
    obtain ⟨N, h1, h2⟩ := cnt_outer b l (i + 1) (dcF ((b[i]?).getD []) va n) (by simp at h; omega)
    refine ⟨N, h1, ?_⟩
    rw [h2, (dcF_total va _ n).1, List.drop_eq_getElem_cons hlt, List.getElem?_eq_getElem hlt]
    simp only [Option.getD_some, List.zipWith_cons_cons, List.map_cons, List.sum_cons]
    omega
theorem dlen_fold : ∀ (W : List Wr) (m : Nat), ((W.foldl (fun m w => m + w.d.length) m : Nat) : Int) = m + dlen W
  | [], m => by simp [dlen]
  | w :: W, m => by
    simp only [List.foldl_cons]
    rw [dlen_fold W]
    simp only [dlen, List.map_cons, List.sum_cons]
    omega
theorem sizes_ints (a b : Img) : (a.map fun v => (v.length : Int)) = (b.map fun v => (v.length : Int)) ↔ a.map List.length = b.map List.length := by
  have key : ∀ (l m : List Nat), l.map (fun n : Nat => (n : Int)) = m.map (fun n : Nat => (n : Int)) ↔ l = m := fun l m => List.map_inj_right (fun _ _ h => Int.ofNat_inj.1 h)
  rw [← key, List.map_map, List.map_map]
  rfl

theorem f10_spec (a b : Img) (Y : List YF) : callS ev fs 10 [zImg a, zImg b] [] Y = some (.ret (zB true), []) := by
  refine callS_by f10_eq rfl ?_
  simp only [bodyOf, Go.Proofs.Try.f10, Option.getD_some]
  have hw := f22_call
  have h19a := f19_spec a []
  have h19b := f19_spec b []
  simp only [go_sem] at hw h19a h19b
  cases hf : mFew a
  · simp [go_sem, h19a, hf, hw]
  cases hg : mFew b
  · simp [go_sem, h19a, h19b, hf, hg, hw]
  obtain ⟨i1, i2⟩ := few_len hf
  obtain ⟨j1, j2⟩ := few_len hg
  have i3 : ∀ x ∈ a, x.length < 1000000000 := fun x hx => by have := i2 x hx; omega
  have j3 : ∀ x ∈ b, x.length < 1000000000 := fun x hx => by have := j2 x hx; omega
  have h26 := f26_spec a (by omega) []
  have h51a := f51_spec a (by omega) []
  have h51b := f51_spec b (by omega) []
  have h50 := f50_spec (a.map fun v => (v.length : Int)) (b.map fun v => (v.length : Int)) (by simp; omega) []
  simp only [go_sem, sizes_ints, List.map_map] at h26 h51a h51b h50
  by_cases c0 : ¬ mCheck a = 0
  · simp [go_sem, h19a, h19b, hf, hg, hw, h26, c0]
  replace c0 : mCheck a = 0 := Decidable.not_not.1 c0
  by_cases hs : ¬ a.map List.length = b.map List.length
  · simp only [hs, decide_false] at h50
    simp [go_sem, h19a, h19b, hf, hg, hw, h26, c0, h51a, h51b, h50]
  replace hs : a.map List.length = b.map List.length := Decidable.not_not.1 hs
  simp only [hs, decide_true] at h50
  have h0 : mPair a b = 0 := by simp [mPair, c0, ← mCheck_sizes hs, hs]
  have hl := sizes_len hs
  have hps := patch_split a b
  have happ := patch_applies h0
  have hnil := patch_nil h0
  have hZ : ∀ x ∈ List.zipWith mExt a b, x.length ≤ 24 := fun x hx => by
    obtain ⟨i, hi, rfl⟩ := List.getElem_of_mem hx
    simp only [List.length_zipWith] at hi
    rw [List.getElem_zipWith]
    have := mExt_len a[i] b[i]
    have := i2 a[i] (List.getElem_mem _)
    omega
  have hW1 := mPatch_bound b _ 0 [] _ 24 hZ hps
  have hW2 := mPatch_data b 24 j2 _ 0 [] _ (fun w hw => by simp at hw) hps
  have hZl : (List.zipWith mExt a b).length ≤ 9 := by simp; omega
  have hW3 : (mPatch a b).length ≤ 216 := by
    simp only [List.length_nil, Nat.zero_add] at hW1
    have : (List.zipWith mExt a b).length * 24 ≤ 9 * 24 := Nat.mul_le_mul_right _ hZl
    omega
  have hsum := mPatch_sum b _ 0 [] _ (fun j hj x hx => by
    have h1 : j < a.length := by simp at hj; omega
    have h2 : j < b.length := by omega
    rw [List.getElem_zipWith] at hx
    simp only [Nat.zero_add, List.getElem?_eq_getElem h2, Option.getD_some]
    exact mExt_ok (sizes_get hs h1 h2) x hx) hps
  obtain ⟨N, hN, hNs⟩ := cnt_outer b a 0 0 (by omega)
  have h40 := f40_spec a b (by omega) (by omega) []
  have h31 := f31_spec a (mPatch a b) (by omega) (by omega) (fun w hw => by have := hW2 w hw; omega) []
  have h42 := f42_spec b b (by omega) j3 []
  have h42' := f42_spec a b (by omega) i3 []
  have h25 := f25_spec b b (by omega) j3 []
  simp only [zPatch, h0, if_true] at h40
  simp only [zApply, c0, if_true, happ] at h31
  have hNM : (N : Int) = (((mPatch a b).foldl (fun m w => m + w.d.length) 0 : Nat) : Int) := by
    rw [dlen_fold, hsum, hNs]
    simp [dlen]
  generalize mPatch a b = W at h40 h31 hW2 hW3 hNM hnil
  generalize hM : W.foldl (fun m w => m + w.d.length) 0 = M at hNM
  obtain rfl : N = M := by omega
  obtain ⟨R, hR⟩ := fold_loop (E := ev) (C := callS ev fs) (Y := Y) (w := {}) (a := (loopsOf (bodyOf Go.Proofs.Try.f10))[0]?.getD .skip) (b := 0) 
    a (fun i n va => .inl (dcF ((b[i]?).getD []) va n)) 0 (ex := fun (r : Empty) => nomatch r)
    (fun i n st => n ≤ i * 24 ∧ LiveT [(0, zImg a), (1, zImg b), (5, zWrs W), (10, zI n), (11, zI 0), (79, zImg a), (80, zI a.length), (81, zI i)] 0 st)
    (fun n => LiveT [(5, zWrs W), (10, zI n), (11, zI 0)] 0) (fun r => nomatch r)
    (fun i n st hi h => by
      obtain ⟨hn, h⟩ := h
      obtain ⟨tm, H, b⟩ := st
      simp only [bodyOf, Go.Proofs.Try.f10, Option.getD_some, loopsOf, rangesOf, List.nil_append, List.append_nil, List.cons_append, List.getElem?_cons_zero, List.getElem?_cons_succ]
      simp only [go_sem] at h
      obtain ⟨g0, g1, g5, g10, g11, g79, g80, g81, rfl⟩ := h
      have hib : i < b.length := by omega
      have hai := i2 _ (List.getElem_mem hi)
      have hab := sizes_get hs hi hib
      obtain ⟨R2, hR2⟩ := fold_loop (E := ev) (C := callS ev fs) (Y := Y) (w := {}) (a := (loopsOf (bodyOf Go.Proofs.Try.f10))[1]?.getD .skip) (b := 2) 
        a[i] (diffF (fun _ n => n + 1) b[i]) n (ex := fun (r : Empty) => nomatch r)
        (fun k m st => m ≤ n + k ∧ LiveT [(0, zImg a), (1, zImg b), (5, zWrs W), (10, zI m), (11, zI 0), (12, zI i), (79, zImg a), (80, zI a.length), (81, zI i), (87, zI a[i].length), (88, zI k)] 0 st)
        (fun m => LiveT [(0, zImg a), (1, zImg b), (5, zWrs W), (10, zI m), (11, zI 0), (79, zImg a), (80, zI a.length), (81, zI i)] 0) (fun r => nomatch r)
        (fun k m st hk h => by
          obtain ⟨hm, h⟩ := h
          obtain ⟨tm, H, b⟩ := st
          simp only [bodyOf, Go.Proofs.Try.f10, Option.getD_some, loopsOf, rangesOf, List.nil_append, List.append_nil, List.cons_append, List.getElem?_cons_zero, List.getElem?_cons_succ]
          simp only [go_sem] at h
          obtain ⟨p0, p1, p5, p10, p11, p12, p79, p80, p81, p87, p88, rfl⟩ := h
          have hkb : k < b[i].length := by omega
          by_cases he : a[i][k] = b[i][k]
          · simp [go_sem, p0, p1, p5, p10, p11, p12, p79, p80, p81, p87, p88, hi, hib, hk, hkb, he, diffF, show m ≤ n + (k + 1) by omega, show k < 1000000000 by omega]
          · simp [go_sem, p0, p1, p5, p10, p11, p12, p79, p80, p81, p87, p88, hi, hib, hk, hkb, he, diffF, show m + 1 ≤ n + (k + 1) by omega, show m < 1000000000 by omega, show k < 1000000000 by omega])
        (fun m st h => by
          obtain ⟨hm, h⟩ := h
          obtain ⟨tm, H, b⟩ := st
          simp only [bodyOf, Go.Proofs.Try.f10, Option.getD_some, loopsOf, rangesOf, List.nil_append, List.append_nil, List.cons_append, List.getElem?_cons_zero, List.getElem?_cons_succ]
          simp only [go_sem] at h
          obtain ⟨p0, p1, p5, p10, p11, p12, p79, p80, p81, p87, p88, rfl⟩ := h
          simp [go_sem, p0, p1, p5, p10, p11, p79, p80, p81, p87, p88])
        (fun r => nomatch r)
      simp only [bodyOf, Go.Proofs.Try.f10, Option.getD_some, loopsOf, rangesOf, List.nil_append, List.append_nil, List.cons_append, List.getElem?_cons_zero, List.getElem?_cons_succ] at hR2
      rw [dcF_fold] at hR2
      have hd := (dcF_total a[i] b[i] n).2
      simp [go_sem] at hR2
      simp [go_sem, g0, g1, g5, g10, g11, g79, g80, g81, hi, hib, hR2, show dcF b[i] a[i] n ≤ (i + 1) * 24 by omega, show i < 1000000000 by omega])
    (fun n st h => by
      obtain ⟨hn, h⟩ := h
      obtain ⟨tm, H, b⟩ := st
      simp only [bodyOf, Go.Proofs.Try.f10, Option.getD_some, loopsOf, rangesOf, List.nil_append, List.append_nil, List.cons_append, List.getElem?_cons_zero, List.getElem?_cons_succ]
      simp only [go_sem] at h
      obtain ⟨g0, g1, g5, g10, g11, g79, g80, g81, rfl⟩ := h
      simp [go_sem, g5, g10, g11, g80, g81])
    (fun r => nomatch r)
  rw [hN] at hR
  obtain ⟨R3, hR3⟩ := fold_loop (E := ev) (C := callS ev fs) (Y := Y) (w := {}) (a := (loopsOf (bodyOf Go.Proofs.Try.f10))[2]?.getD .skip) (b := 4) 
    W (fun _ m w => .inl (m + w.d.length)) 0 (ex := fun (r : Empty) => nomatch r)
    (fun k m st => m ≤ k * 24 ∧ LiveT [(10, zI N), (11, zI m), (110, zWrs W), (111, zI W.length), (112, zI k)] 0 st)
    (fun m => LiveT [(10, zI N), (11, zI m)] 0) (fun r => nomatch r)
    (fun k m st hk h => by
      obtain ⟨hm, h⟩ := h
      obtain ⟨tm, H, b⟩ := st
      simp only [bodyOf, Go.Proofs.Try.f10, Option.getD_some, loopsOf, rangesOf, List.nil_append, List.append_nil, List.cons_append, List.getElem?_cons_zero, List.getElem?_cons_succ]
      simp only [go_sem] at h
      obtain ⟨p10, p11, p110, p111, p112, rfl⟩ := h
      have hd := hW2 _ (List.getElem_mem hk)
      have hwr : IntKind.wrap .i64 ((m : Int) + W[k].d.length) = ((m + W[k].d.length : Nat) : Int) := by rw [wrap64 (by omega)]; omega
      simp [go_sem, p10, p11, p110, p111, p112, hk, hwr, show m + W[k].d.length ≤ (k + 1) * 24 by omega, show k < 1000000000 by omega])
    (fun m st h => by
      obtain ⟨hm, h⟩ := h
      obtain ⟨tm, H, b⟩ := st
      simp only [bodyOf, Go.Proofs.Try.f10, Option.getD_some, loopsOf, rangesOf, List.nil_append, List.append_nil, List.cons_append, List.getElem?_cons_zero, List.getElem?_cons_succ]
      simp only [go_sem] at h
      obtain ⟨p10, p11, p110, p111, p112, rfl⟩ := h
      simp [go_sem, p10, p11, p111, p112])
    (fun r => nomatch r)
  rw [foldE_fold, hM] at hR3
  simp only [bodyOf, Go.Proofs.Try.f10, Option.getD_some, loopsOf, rangesOf, List.nil_append, List.append_nil, List.cons_append, List.getElem?_cons_zero, List.getElem?_cons_succ] at hR hR3
  simp [go_sem] at hR hR3
  by_cases hab : a = b
  · have hwn := hnil.2 hab
    subst hab
    subst hwn
    simp only [go_sem, decide_true] at h40 h31 h42 h42' h25
    simp only [go_sem, List.map_nil] at h40 h31 hR hR3
    simp [go_sem, h19a, h19b, hf, hg, hw, h26, c0, h51a, h51b, h50, h40, h31, h42, h42', h25, hR, hR3]
    done
  · have hwn : ¬ W = [] := fun h => hab (hnil.1 h)
    simp only [go_sem, decide_true, hab, decide_false] at h40 h31 h42 h42' h25
    simp [go_sem, h19a, h19b, hf, hg, hw, h26, c0, h51a, h51b, h50, h40, h31, h42, h42', h25, hR, hR3, hab, hwn]
    done
end Go.Proofs.Ytlphdiccffnckaa

/- Layers 46 and 54: lineages. -/
namespace Go.Proofs.Ytlphdiccffnckaa
open Go Go.Abs
theorem f13_eq : fs 13 = some (mkFn {} Go.Proofs.Try.f13 (bodyOf Go.Proofs.Try.f13)) := by kernel_rfl
theorem f60_eq : fs 60 = some (mkFn {} Go.Proofs.Try.f60 (bodyOf Go.Proofs.Try.f60)) := by kernel_rfl
theorem f61_eq : fs 61 = some (mkFn {} Go.Proofs.Try.f61 (bodyOf Go.Proofs.Try.f61)) := by kernel_rfl
theorem f62_eq : fs 62 = some (mkFn {} Go.Proofs.Try.f62 (bodyOf Go.Proofs.Try.f62)) := by kernel_rfl
theorem f63_eq : fs 63 = some (mkFn {} Go.Proofs.Try.f63 (bodyOf Go.Proofs.Try.f63)) := by kernel_rfl
theorem f146_eq : fs 146 = some (mkFn {} Go.Proofs.Try.f146 (bodyOf Go.Proofs.Try.f146)) := by kernel_rfl
theorem f149_eq : fs 149 = some (mkFn {} Go.Proofs.Try.f149 (bodyOf Go.Proofs.Try.f149)) := by kernel_rfl
theorem f150_eq : fs 150 = some (mkFn {} Go.Proofs.Try.f150 (bodyOf Go.Proofs.Try.f150)) := by kernel_rfl
theorem f151_eq : fs 151 = some (mkFn {} Go.Proofs.Try.f151 (bodyOf Go.Proofs.Try.f151)) := by kernel_rfl
theorem f152_eq : fs 152 = some (mkFn {} Go.Proofs.Try.f152 (bodyOf Go.Proofs.Try.f152)) := by kernel_rfl
theorem f207_eq : fs 207 = some (mkFn {} Go.Proofs.Try.f207 (bodyOf Go.Proofs.Try.f207)) := by kernel_rfl
/-- A span of a lineage: epoch, from, to. -/
structure Sp where
  e : Int
  f : Int
  t : Int
  deriving DecidableEq
@[go_sem] def spRow (x : Sp) : List AV := [.sc (.int .i64 x.e), .sc (.int .i64 x.f), .sc (.int .i64 x.t)]
@[go_sem] def zSps (l : List Sp) : AV := .sl false 3 (l.map fun x => [.sc (.int .i64 x.e), .sc (.int .i64 x.f), .sc (.int .i64 x.t)])
def spNext (p x : Sp) : Prop := x.f = p.t + 1 ∧ x.f ≤ x.t ∧ x.t ≤ 1073741824 ∧ 1 ≤ x.e ∧ x.e ≤ 1073741824 ∧ p.e < x.e
instance (p x : Sp) : Decidable (spNext p x) := by unfold spNext; infer_instance
def spOk : Sp → List Sp → Bool
  | _, [] => true
  | p, x :: l => if spNext p x then spOk x l else false
def sp0 : Sp := ⟨0, 0, 0⟩
def spF (_ : Nat) (p x : Sp) : Sp ⊕ Unit := if spNext p x then .inl x else .inr ()
theorem foldE_sp : ∀ (l : List Sp) (i : Nat) (p : Sp), foldE spF i p l = if spOk p l = true then .inl (l.getLast?.getD p) else .inr ()
  | [], _, _ => rfl
  | x :: l, i, p => by
    simp only [foldE, spF, spOk]
    by_cases h : spNext p x
    · simp only [h, if_true]
      rw [foldE_sp l (i + 1) x]
      cases l with
      | nil => rfl
      | cons y l => simp [List.getLast?_cons_cons]; rfl
    · simp [h]
def spGood (p : Sp) : Prop := 0 ≤ p.t ∧ p.t ≤ 1073741824 ∧ 0 ≤ p.e ∧ p.e ≤ 1073741824
theorem spNext_good {p x : Sp} (hp : spGood p) (h : spNext p x) : spGood x := by
  unfold spGood spNext at *
  omega
theorem f207_spec (n low : Int) (Y : List YF) : callS ev fs 207 [zI n, zI low] [] Y = some (.ret (zB (decide (low ≤ n ∧ n ≤ 1073741824))), []) := by
  refine callS_by f207_eq rfl ?_
  simp only [bodyOf, Go.Proofs.Try.f207, Option.getD_some]
  by_cases h : low ≤ n
  · simp [go_sem, h]
  · simp [go_sem, h]
theorem f146_spec (l : List Sp) (hl : l.length < 1000000000) (Y : List YF) : callS ev fs 146 [zSps l] [] Y = some (.ret (zB (spOk sp0 l)), []) := by
  refine callS_by f146_eq rfl ?_
  simp only [bodyOf, Go.Proofs.Try.f146, Option.getD_some]
  obtain ⟨R, hR⟩ := fold_loop (E := ev) (C := callS ev fs) (Y := Y) (w := {}) (a := (loopsOf (bodyOf Go.Proofs.Try.f146))[0]?.getD .skip) (b := 0) 
    l spF sp0 (ex := fun _ => .ret)
    (fun i p st => spGood p ∧ st.H[0]? = some (.box (spRow p)) ∧ LiveT [(3, .bp 0 0), (7, zSps l), (8, zI l.length), (9, zI i)] 0 st)
    (fun p => LiveT [] 0)
    (fun _ st => st.tm.get 2 = zB false ∧ st.b = 0)
    (fun i p st hi h => by
      obtain ⟨hp, hH, h⟩ := h
      obtain ⟨tm, H, b⟩ := st
      simp only [bodyOf, Go.Proofs.Try.f146, Option.getD_some, loopsOf, rangesOf, List.nil_append, List.append_nil, List.cons_append, List.getElem?_cons_zero, List.getElem?_cons_succ]
      simp only [go_sem] at h
      obtain ⟨h3, h7, h8, h9, rfl⟩ := h
      have h207 := f207_spec l[i].e 1 []
      have hb0 := fun B => get_app (B := B) hH
      have hb1 := fun B hk => getE (hb0 B) hk
      have hKl := (List.getElem?_eq_some_iff.1 hH).1
      have hlast : ∀ e, (H ++ [e])[H.length]? = some e := fun e => by simp
      have hw := wrap64 (x := p.t + 1) (by unfold spGood at hp; omega)
      simp only [go_sem] at h207 hH hb0 hb1
      by_cases c1 : ¬ l[i].f = p.t + 1
      · have hn : ¬ spNext p l[i] := fun h => c1 h.1
        simp [go_sem, h3, h7, h8, h9, hi, hb0, hb1, hw, spF, hn, hlast, show i < 1000000000 by omega, h207, c1]
      replace c1 : l[i].f = p.t + 1 := Decidable.not_not.1 c1
      by_cases c2 : l[i].t < p.t + 1
      · have hn : ¬ spNext p l[i] := fun h => by have := h.2.1; omega
        simp [go_sem, h3, h7, h8, h9, hi, hb0, hb1, hw, spF, hn, hlast, show i < 1000000000 by omega, h207, c2, c1]
      by_cases c3 : 1073741824 < l[i].t
      · have hn : ¬ spNext p l[i] := fun h => by have := h.2.2.1; omega
        simp [go_sem, h3, h7, h8, h9, hi, hb0, hb1, hw, spF, hn, hlast, show i < 1000000000 by omega, h207, c3, c1, c2]
      by_cases c4 : ¬ 1 ≤ l[i].e
      · have hn : ¬ spNext p l[i] := fun h => c4 h.2.2.2.1
        simp [go_sem, h3, h7, h8, h9, hi, hb0, hb1, hw, spF, hn, hlast, show i < 1000000000 by omega, h207, c4, c1, c2, c3]
      replace c4 : 1 ≤ l[i].e := Decidable.not_not.1 c4
      by_cases c5 : ¬ l[i].e ≤ 1073741824
      · have hn : ¬ spNext p l[i] := fun h => c5 h.2.2.2.2.1
        simp [go_sem, h3, h7, h8, h9, hi, hb0, hb1, hw, spF, hn, hlast, show i < 1000000000 by omega, h207, c5, c1, c2, c3, c4]
      replace c5 : l[i].e ≤ 1073741824 := Decidable.not_not.1 c5
      by_cases c6 : l[i].e ≤ p.e
      · have hn : ¬ spNext p l[i] := fun h => by have := h.2.2.2.2.2; omega
        simp [go_sem, h3, h7, h8, h9, hi, hb0, hb1, hw, spF, hn, hlast, show i < 1000000000 by omega, h207, c6, c1, c2, c3, c4, c5]
      have hn : spNext p l[i] := ⟨c1, by omega, by omega, c4, c5, by omega⟩
      have hg := spNext_good hp hn
      simp [go_sem, h3, h7, h8, h9, hi, hb0, hb1, hw, spF, hn, hlast, show i < 1000000000 by omega, h207, hg, hKl, c1, c2, c3, c4, c5, c6])
    (fun p st h => by
      obtain ⟨hp, hH, h⟩ := h
      obtain ⟨tm, H, b⟩ := st
      simp only [bodyOf, Go.Proofs.Try.f146, Option.getD_some, loopsOf, rangesOf, List.nil_append, List.append_nil, List.cons_append, List.getElem?_cons_zero, List.getElem?_cons_succ]
      simp only [go_sem] at h
      obtain ⟨h3, h7, h8, h9, rfl⟩ := h
      simp [go_sem, h3, h7, h8, h9])
    (fun _ h => by cases h)
  simp only [bodyOf, Go.Proofs.Try.f146, Option.getD_some, loopsOf, rangesOf, List.nil_append, List.append_nil, List.cons_append, List.getElem?_cons_zero, List.getElem?_cons_succ] at hR
  simp only [foldE_sp] at hR
  cases hs : spOk sp0 l
  · simp [hs, go_sem] at hR
    simp [sp0, spGood] at hR
    simp [go_sem, hR]
  · simp [hs, go_sem] at hR
    simp [sp0, spGood] at hR
    simp [go_sem, hR]

section
variable {H : List Ent} {b t : Nat}
@[go_sem] theorem opD_min {E : Env} {C : CF} {Y : List YF} {f : Fl} {tm : Slots} (x y : Operand) (ts : Array TypeId) : opD E C Y f (.call { callee := .builtin .min, args := #[x, y], argTypes := ts }) tm b H = Go.Abs.ok H (aMin2 (aval E.G tm x) (aval E.G tm y)) := rfl
@[go_sem] theorem min2 {k : IntKind} {x y : Int} : aMin2 (.sc (.int k x)) (.sc (.int k y)) = some (.sc (.int k (if y < x then y else x))) := by simp [aMin2]
end
theorem min_len (a b : List Sp) : (if b.length < a.length then (b.length : Int) else a.length) = ((min a.length b.length : Nat) : Int) := by split <;> omega
def minI (x y : Int) : Int := if y < x then y else x
def ancF (_ : Nat) (r : Int × Int) (p : Sp × Sp) : (Int × Int) ⊕ (Int × Int) :=
  if p.1.e = p.2.e then (if p.1.t = p.2.t then .inl (minI p.1.t p.2.t, p.1.e) else .inr (minI p.1.t p.2.t, p.1.e)) else .inr r
def anc (a b : List Sp) : Int × Int := match foldE ancF 0 (0, 0) (a.zip b) with
  | .inl r => r
  | .inr r => r
/-- The common ancestor, of wrong lineages too. -/
def ancestor (a b : List Sp) : Int × Int := if spOk sp0 a = true then (if spOk sp0 b = true then anc a b else (0, 0)) else (0, 0)

theorem f60_spec (a b : List Sp) (ha : a.length < 1000000000) (hb : b.length < 1000000000) (Y : List YF) :
    callS ev fs 60 [zSps a, zSps b] [] Y = some (.ret (.tup [zI (ancestor a b).1, zI (ancestor a b).2]), []) := by
  refine callS_by f60_eq rfl ?_
  simp only [bodyOf, Go.Proofs.Try.f60, Option.getD_some]
  have h1 := f146_spec a ha []
  have h2 := f146_spec b hb []
  simp only [go_sem] at h1 h2
  cases ca : spOk sp0 a
  · simp [go_sem, h1, ca, ancestor]
  cases cb : spOk sp0 b
  · simp [go_sem, h1, h2, ca, cb, ancestor]
  obtain ⟨R, hR⟩ := fold_loop (E := ev) (C := callS ev fs) (Y := Y) (w := {}) (a := (loopsOf (bodyOf Go.Proofs.Try.f60))[0]?.getD .skip) (b := 0) 
    (a.zip b) ancF ((0, 0) : Int × Int) (ex := fun _ => .exit 0)
    (fun i r st => LiveT [(0, zSps a), (1, zSps b), (6, zI r.1), (7, zI r.2), (8, zI i)] 0 st)
    (fun r st => LiveT [(6, zI r.1), (7, zI r.2)] 0 st)
    (fun r st => LiveT [(6, zI r.1), (7, zI r.2)] 0 st)
    (fun i r st hi h => by
      have hz : i < a.length ∧ i < b.length := by simpa [List.length_zip, Nat.lt_min] using hi
      obtain ⟨hia, hib⟩ := hz
      simp only [List.getElem_zip]
      obtain ⟨tm, H, b⟩ := st
      simp only [bodyOf, Go.Proofs.Try.f60, Option.getD_some, loopsOf, rangesOf, List.nil_append, List.append_nil, List.cons_append, List.getElem?_cons_zero, List.getElem?_cons_succ]
      simp only [go_sem] at h
      obtain ⟨h0, h1, h6, h7, h8, rfl⟩ := h
      by_cases c1 : ¬ a[i].e = b[i].e
      · simp [go_sem, h0, h1, h6, h7, h8, hia, hib, ancF, min_len, Nat.lt_min.2 ⟨hia, hib⟩, c1, show i < 1000000000 by omega]
      replace c1 := Decidable.not_not.1 c1
      by_cases c2 : a[i].t = b[i].t
      · simp [go_sem, h0, h1, h6, h7, h8, hia, hib, ancF, min_len, Nat.lt_min.2 ⟨hia, hib⟩, c1, c2, minI, show i < 1000000000 by omega]
      · simp [go_sem, h0, h1, h6, h7, h8, hia, hib, ancF, min_len, Nat.lt_min.2 ⟨hia, hib⟩, c1, c2, minI, show i < 1000000000 by omega])
    (fun r st h => by
      obtain ⟨tm, H, b⟩ := st
      simp only [bodyOf, Go.Proofs.Try.f60, Option.getD_some, loopsOf, rangesOf, List.nil_append, List.append_nil, List.cons_append, List.getElem?_cons_zero, List.getElem?_cons_succ]
      simp only [go_sem] at h
      obtain ⟨h0, h1, h6, h7, h8, rfl⟩ := h
      simp only [List.length_zip] at h8
      simp [go_sem, h0, h1, h6, h7, h8, min_len])
    (fun _ h => by cases h)
  simp only [bodyOf, Go.Proofs.Try.f60, Option.getD_some, loopsOf, rangesOf, List.nil_append, List.append_nil, List.cons_append, List.getElem?_cons_zero, List.getElem?_cons_succ] at hR
  have hm : ancestor a b = match foldE ancF 0 (0, 0) (a.zip b) with
    | .inl r => r
    | .inr r => r := by simp [ancestor, ca, cb, anc]
  rw [hm]
  cases hr : foldE ancF 0 (0, 0) (a.zip b) with
  | inl r =>
    simp only [hr] at hR
    simp [go_sem] at hR
    simp [go_sem, h1, h2, ca, cb, hR]
  | inr r =>
    simp only [hr] at hR
    simp [go_sem] at hR
    simp [go_sem, h1, h2, ca, cb, hR]

theorem anc_self : ∀ (l : List Sp) (i : Nat) (r : Int × Int), foldE ancF i r (l.zip l) = .inl ((l.getLast?.map fun x => (x.t, x.e)).getD r)
  | [], _, _ => rfl
  | x :: l, i, r => by
    simp only [List.zip_cons_cons, foldE, ancF, if_true]
    rw [anc_self l]
    cases l with
    | nil => simp [minI]
    | cons y l =>
      rw [List.getLast?_cons_cons]
      cases h : (y :: l).getLast? with
      | none => simp at h
      | some z => rfl
def endT (l : List Sp) : Int := (l.getLast?.getD sp0).t
theorem ancestor_self (l : List Sp) : (ancestor l l).1 = if spOk sp0 l = true then endT l else 0 := by
  unfold ancestor anc
  rw [anc_self]
  cases spOk sp0 l
  · rfl
  · cases h : l.getLast? with
    | none => simp [endT, h, sp0]
    | some z => simp [endT, h]
theorem spOk_last : ∀ (l : List Sp) (p : Sp), spGood p → spOk p l = true → l ≠ [] → 0 < (l.getLast?.getD sp0).t
  | [], _, _, _, h => absurd rfl h
  | x :: l, p, hp, h, _ => by
    simp only [spOk] at h
    by_cases hn : spNext p x
    · simp only [hn, if_true] at h
      have hx := spNext_good hp hn
      cases l with
      | nil =>
        simp only [List.getLast?_singleton, Option.getD_some]
        unfold spNext spGood at *
        omega
      | cons y l =>
        rw [List.getLast?_cons_cons]
        exact spOk_last (y :: l) x hx h (by simp)
    · simp [hn] at h
theorem sp0_good : spGood sp0 := by simp [spGood, sp0]

theorem f149_spec (l : List Sp) (hl : l.length < 1000000000) (Y : List YF) :
    callS ev fs 149 [zSps l] [] Y = some (.ret (.tup [zI (if spOk sp0 l = true then endT l else 0), zB (spOk sp0 l)]), []) := by
  refine callS_by f149_eq rfl ?_
  simp only [bodyOf, Go.Proofs.Try.f149, Option.getD_some]
  have h1 := f60_spec l l hl hl []
  rw [ancestor_self] at h1
  simp only [go_sem] at h1
  by_cases h0 : l = []
  · subst h0
    simp [go_sem] at h1
    simp [go_sem, h1, spOk]
  have h0' : ¬ l.length = 0 := by simpa using h0
  cases ho : spOk sp0 l
  · simp [ho] at h1
    simp [go_sem, h1, h0, h0', ho]
  · simp [ho] at h1
    have := spOk_last l sp0 sp0_good ho h0
    simp [go_sem, h1, h0, h0', ho]
    exact this

def fork (a b : List Sp) : Int × Bool := if spOk sp0 a = true then (if spOk sp0 b = true then ((anc a b).1, decide ((anc a b).1 < endT a ∧ (anc a b).1 < endT b)) else (0, false)) else (0, false)

theorem f62_spec (a b : List Sp) (ha : a.length < 1000000000) (hb : b.length < 1000000000) (Y : List YF) :
    callS ev fs 62 [zSps a, zSps b] [] Y = some (.ret (.tup [zI (fork a b).1, zB (fork a b).2]), []) := by
  refine callS_by f62_eq rfl ?_
  simp only [bodyOf, Go.Proofs.Try.f62, Option.getD_some]
  have h1 := f149_spec a ha []
  have h2 := f149_spec b hb []
  have h3 := f60_spec a b ha hb []
  simp only [go_sem] at h1 h2 h3
  cases ca : spOk sp0 a
  · simp [ca] at h1
    simp [go_sem, h1, h2, ca, fork]
  cases cb : spOk sp0 b
  · simp [ca, cb] at h1 h2
    simp [go_sem, h1, h2, ca, cb, fork]
  simp [ca, cb, ancestor] at h1 h2 h3
  by_cases h4 : (anc a b).1 < endT a
  · simp [go_sem, h1, h2, h3, ca, cb, fork, h4]
  · simp [go_sem, h1, h2, h3, ca, cb, fork, h4]
end Go.Proofs.Ytlphdiccffnckaa

