/- Layer 7: Patch of the reference; the law ImageDiffers. -/
import Derived.Test.YtlphdiccffnckaaImm
namespace Go.Proofs.Ytlphdiccffnckaa
open Go Go.Abs

theorem flno : (Fl.non == Fl.own) = false := rfl
theorem f41_spec (a b : Img) (ha : a.length < 100000000) (hb : b.length < 100000000) (Y : List YF) : callS ev fs 41 [zImg a, zImg b] [] Y = some (.ret (zPatch a b), []) := by
  refine callS_by f41_eq rfl ?_
  simp only [bodyOf, Go.Proofs.Try.f41, Option.getD_some]
  have h39 := f39_spec a b ha hb []
  by_cases h0 : ¬ mPair a b = 0
  · simp only [go_sem, zDiffer, h0, if_false] at h39
    simp [go_sem, h39, h0, zPatch]
  replace h0 : mPair a b = 0 := Decidable.not_not.1 h0
  obtain ⟨q1, q2, q3⟩ := mPair_zero h0
  have hal := (mCheck_zero q1).2.2
  have hl := sizes_len q3
  simp only [zDiffer, h0, if_true] at h39
  have hzl : (List.zipWith mExt a b).length = a.length := by simp; omega
  have hz : ∀ i (h1 : i < (List.zipWith mExt a b).length) (h2 : i < b.length), (∀ x ∈ (List.zipWith mExt a b)[i], okExtAt b[i] x) ∧ (List.zipWith mExt a b)[i].length ≤ 4096 ∧ b[i].length ≤ 4096 := fun i h1 h2 => by
    have h3 : i < a.length := by omega
    rw [List.getElem_zipWith]
    have h4 := sizes_get q3 h3 h2
    have h5 := (hal _ (List.getElem_mem h3)).2
    have h6 := mExt_len a[i] b[i]
    exact ⟨mExt_ok h4, by omega, by omega⟩
  have hps := patch_split a b
  generalize mPatch a b = W at hps
  have hW : zPatch a b = .tup [zWrs W, zI 0] := by
    have : mPatch a b = W := by unfold mPatch; rw [hps]
    unfold zPatch
    rw [if_pos h0, this]
  rw [hW]
  generalize List.zipWith mExt a b = Z at h39 hzl hz hps
  have hZl : Z.length ≤ 8 := by have := (mCheck_zero q1).2.1; omega
  obtain ⟨R, hR⟩ := fold_loop (E := ev) (C := callS ev fs) (Y := Y) (w := w41) (a := (loopsOf (bodyOf Go.Proofs.Try.f41))[0]?.getD .skip) (b := 0) 
    Z (patchF b) ([] : List Wr) (ex := fun (r : Empty) => nomatch r)
    (fun i out st => (out.length ≤ i * 4096 ∧ st.H[0]? = some (.own out.length 3 (out.map wrRow))) ∧ LiveT [(1, zImg b), (6, zExtss Z), (8, .os 0 0 out.length out.length), (9, zI i)] 0 st)
    (fun out st => (st.H[0]? = some (.own out.length 3 (out.map wrRow))) ∧ LiveT [(8, .os 0 0 out.length out.length)] 0 st) (fun r => nomatch r)
    (fun i out st hi h => by
      obtain ⟨⟨ho, hH0⟩, h⟩ := h
      obtain ⟨tm, H, b⟩ := st
      simp only [bodyOf, Go.Proofs.Try.f41, Option.getD_some, loopsOf, rangesOf, List.nil_append, List.append_nil, List.cons_append, List.getElem?_cons_zero, List.getElem?_cons_succ]
      simp only [go_sem] at h
      obtain ⟨g1, g6, g8, g9, rfl⟩ := h
      simp only at hH0
      have hib : i < b.length := by omega
      obtain ⟨z1, z2, z3⟩ := hz i hi hib
      obtain ⟨R2, hR2⟩ := fold_loop (E := ev) (C := callS ev fs) (Y := Y) (w := w41) (a := (loopsOf (bodyOf Go.Proofs.Try.f41))[1]?.getD .skip) (b := 2) 
        Z[i] (fun _ o x => .inl (o ++ [wrOf i b[i] x])) out (ex := fun (r : Empty) => nomatch r)
        (fun j o st => (o.length = out.length + j ∧ st.H[0]? = some (.own o.length 3 (o.map wrRow))) ∧ LiveT [(1, zImg b), (6, zExtss Z), (8, .os 0 0 o.length o.length), (9, zI i), (10, zI j)] 0 st)
        (fun o st => (o.length = out.length + Z[i].length ∧ st.H[0]? = some (.own o.length 3 (o.map wrRow))) ∧ LiveT [(1, zImg b), (6, zExtss Z), (8, .os 0 0 o.length o.length), (9, zI i)] 0 st) (fun r => nomatch r)
        (fun j o st hj h => by
          obtain ⟨⟨hol, hH⟩, h⟩ := h
          obtain ⟨tm, H, b⟩ := st
          simp only [bodyOf, Go.Proofs.Try.f41, Option.getD_some, loopsOf, rangesOf, List.nil_append, List.append_nil, List.cons_append, List.getElem?_cons_zero, List.getElem?_cons_succ]
          simp only [go_sem] at h
          obtain ⟨p1, p6, p8, p9, p10, rfl⟩ := h
          simp only at hH
          have hx := z1 _ (List.getElem_mem hj)
          have hl1 := (List.getElem?_eq_some_iff.1 hH).1
          have k0 := fun B => get_app (B := B) hH
          have e0 := fun B hk => getE (k0 B) hk
          have hr : room (o.length + 1) 40 = true := room_ok (by omega) (by omega) (by omega)
          have hs0 : ∀ B e, ((H ++ B).set 0 e)[0]? = some e := fun B e => List.getElem?_set_self (by simp; omega)
          have htk : (List.map wrRow o).take o.length = List.map wrRow o := List.take_of_length_le (by simp)
          rw [hol] at hr htk
          generalize hxe : Z[i][j] = x at hx
          obtain ⟨s, n⟩ := x
          obtain ⟨x1, x2, x3⟩ := hx
          simp only at x1 x2 x3
          obtain ⟨s, rfl⟩ : ∃ m : Nat, s = m := ⟨s.toNat, by omega⟩
          obtain ⟨n, rfl⟩ : ∃ m : Nat, n = m := ⟨n.toNat, by omega⟩
          have hw := wrap64 (x := (s : Int) + n) (by omega)
          have hr2 : room n 8 = true := room_ok (by omega) (by omega) (by omega)
          have hmin : min n (b[i].length - s) = n := by omega
          simp [go_sem, p1, p6, p8, p9, p10, hi, hib, hj, hxe, k0, e0, hw, hr, hr2, hmin, hs0, htk, hol, wrOf, flno, show ((s : Int) + n).toNat = s + n by omega, show s + n ≤ b[i].length by omega, show (0 : Int) ≤ (s : Int) + n by omega, show j < 1000000000 by omega]
          omega)
        (fun o st h => by
          obtain ⟨⟨hol, hH⟩, h⟩ := h
          obtain ⟨tm, H, b⟩ := st
          simp only [bodyOf, Go.Proofs.Try.f41, Option.getD_some, loopsOf, rangesOf, List.nil_append, List.append_nil, List.cons_append, List.getElem?_cons_zero, List.getElem?_cons_succ]
          simp only [go_sem] at h
          obtain ⟨p1, p6, p8, p9, p10, rfl⟩ := h
          simp only at hH
          simp [go_sem, p1, p6, p8, p9, p10, hi, hH, hol])
        (fun r => nomatch r)
      simp only [bodyOf, Go.Proofs.Try.f41, Option.getD_some, loopsOf, rangesOf, List.nil_append, List.append_nil, List.cons_append, List.getElem?_cons_zero, List.getElem?_cons_succ] at hR2
      rw [foldE_map] at hR2
      have hpf : patchF b i out Z[i] = .inl (out ++ Z[i].map (wrOf i b[i])) := by simp [patchF, hib]
      rw [hpf]
      simp [go_sem] at hR2
      simp [go_sem, g1, g6, g8, g9, hi, hH0, hR2, show i < 1000000000 by omega, show out.length + Z[i].length ≤ (i + 1) * 4096 by omega])
    (fun out st h => by
      obtain ⟨⟨_, hH0⟩, h⟩ := h
      obtain ⟨tm, H, b⟩ := st
      simp only [bodyOf, Go.Proofs.Try.f41, Option.getD_some, loopsOf, rangesOf, List.nil_append, List.append_nil, List.cons_append, List.getElem?_cons_zero, List.getElem?_cons_succ]
      simp only [go_sem] at h
      obtain ⟨g1, g6, g8, g9, rfl⟩ := h
      simp only at hH0
      simp [go_sem, g6, g8, g9, hH0])
    (fun r => nomatch r)
  rw [hps] at hR
  simp only [bodyOf, Go.Proofs.Try.f41, Option.getD_some, loopsOf, rangesOf, List.nil_append, List.append_nil, List.cons_append, List.getElem?_cons_zero, List.getElem?_cons_succ] at hR
  simp [go_sem] at hR
  simp only [go_sem] at h39
  simp [go_sem, freeze_os, h39, hR]

theorem mPatch_bound (b : Img) : ∀ (Z : List (List Ext)) (i : Nat) (out W : List Wr) (m : Nat), (∀ l ∈ Z, l.length ≤ m) → foldE (patchF b) i out Z = .inl W → W.length ≤ out.length + Z.length * m
  | [], i, out, W, m, _, h => by
    simp only [foldE, Sum.inl.injEq] at h
    rw [← h]; simp
  | l :: Z, i, out, W, m, hm, h => by
    simp only [foldE, patchF] at h
    have := mPatch_bound b Z (i + 1) _ W m (fun l hl => hm l (List.mem_cons_of_mem _ hl)) h
    have := hm l (List.mem_cons_self ..)
    simp only [List.length_append, List.length_map] at *
    rw [List.length_cons, Nat.add_mul]
    omega
theorem mPatch_data (b : Img) (m : Nat) (hb : ∀ v ∈ b, v.length ≤ m) : ∀ (Z : List (List Ext)) (i : Nat) (out W : List Wr), (∀ w ∈ out, w.d.length ≤ m) → foldE (patchF b) i out Z = .inl W → ∀ w ∈ W, w.d.length ≤ m
  | [], i, out, W, ho, h => by
    simp only [foldE, Sum.inl.injEq] at h
    rw [← h]; exact ho
  | l :: Z, i, out, W, ho, h => by
    simp only [foldE, patchF] at h
    refine mPatch_data b m hb Z (i + 1) _ W (fun w hw => ?_) h
    rcases List.mem_append.1 hw with hw | hw
    · exact ho w hw
    · obtain ⟨x, _, rfl⟩ := List.mem_map.1 hw
      have : ((b[i]?).getD []).length ≤ m := by
        cases hv : b[i]? with
        | none => simp
        | some v => exact hb v (List.mem_of_getElem? hv)
      simp [wrOf]
      omega

theorem f8_spec (a b : Img) (Y : List YF) : callS ev fs 8 [zImg a, zImg b] [] Y = some (.ret (zB true), []) := by
  refine callS_by f8_eq rfl ?_
  simp only [bodyOf, Go.Proofs.Try.f8, Option.getD_some]
  have hw := f22_call
  have h19a := f19_spec a []
  have h19b := f19_spec b []
  simp only [go_sem] at hw h19a h19b
  cases hf : mFew a
  · simp [go_sem, h19a, hf, hw]
  cases hg : mFew b
  · simp [go_sem, h19a, h19b, hf, hg, hw]
  obtain ⟨i1, i2⟩ := few_len hf
  obtain ⟨j1, j2⟩ := few_len hg
  have i3 : ∀ x ∈ a, x.length < 1000000000 := fun x hx => by have := i2 x hx; omega
  have h34 := f34_spec a b (by omega) (by omega) []
  have h39 := f39_spec a b (by omega) (by omega) []
  have h40 := f40_spec a b (by omega) (by omega) []
  have h41 := f41_spec a b (by omega) (by omega) []
  have h42 := f42_spec a b (by omega) i3 []
  have h25 := f25_spec a b (by omega) i3 []
  by_cases h0 : ¬ mPair a b = 0
  · have h35 := f35_nil
    have h43 := f43_nil
    simp only [go_sem, zDiffer, zPatch, h0, if_false] at h34 h39 h40 h41 h42 h25 h35 h43
    simp [go_sem, h19a, h19b, hf, hg, hw, h34, h39, h40, h41, h42, h25, h35, h43]
  replace h0 : mPair a b = 0 := Decidable.not_not.1 h0
  have hZ : ∀ x ∈ List.zipWith mExt a b, x.length ≤ 24 := fun x hx => by
    obtain ⟨i, hi, rfl⟩ := List.getElem_of_mem hx
    simp only [List.length_zipWith] at hi
    rw [List.getElem_zipWith]
    have := mExt_len a[i] b[i]
    have := i2 a[i] (List.getElem_mem _)
    omega
  have hps := patch_split a b
  have hW1 := mPatch_bound b _ 0 [] _ 24 hZ hps
  have hW2 := mPatch_data b 24 j2 _ 0 [] _ (fun w hw => by simp at hw) hps
  have hZl : (List.zipWith mExt a b).length ≤ 9 := by simp; omega
  have h35 := f35_spec (List.zipWith mExt a b) (List.zipWith mExt a b) (by omega) (fun x hx => by have := hZ x hx; omega) []
  have h43 := f43_same (mPatch a b) (by simp only [List.length_nil, Nat.zero_add] at hW1; have : (List.zipWith mExt a b).length * 24 ≤ 9 * 24 := Nat.mul_le_mul_right _ hZl; omega) (fun w hw => by have := hW2 w hw; omega) []
  simp only [zDiffer, zPatch, h0, if_true] at h34 h39 h40 h41
  generalize mPatch a b = W at h40 h41 h43
  generalize List.zipWith mExt a b = Z at h34 h39 h35
  simp only [go_sem, decide_true] at h34 h39 h40 h41 h42 h25 h35 h43
  simp [go_sem, h19a, h19b, hf, hg, hw, h34, h39, h40, h41, h42, h25, h35, h43]
end Go.Proofs.Ytlphdiccffnckaa
