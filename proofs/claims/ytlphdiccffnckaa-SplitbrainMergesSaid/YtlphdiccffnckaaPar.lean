/- Texts put together: Ioh. -/
import Derived.Test.YtlphdiccffnckaaPao
import Derived.Test.YtlphdiccffnckaaPaq

/- Layer 54: Merge of the reference; the law SplitbrainMerges. -/
namespace Go.Proofs.Ytlphdiccffnckaa
open Go Go.Abs
theorem f15_eq : fs 15 = some (mkFn {} Go.Proofs.Try.f15 (bodyOf Go.Proofs.Try.f15)) := by kernel_rfl

theorem set_same {α : Type} {t : List α} {k : Nat} {x : α} (h : t[k]? = some x) : t.set k x = t := by
  obtain ⟨hk, rfl⟩ := List.getElem?_eq_some_iff.1 h
  exact List.set_getElem_self hk
theorem Holds.same {u : Nat} {c : Img} {H : List Ent} (h : Holds u c H) {j : Nat} {x : Vol} (hj : c[j]? = some x) : Holds u (c.set j x) H := by rw [set_same hj]; exact h
theorem freeze_sl' {n : Nat} {H : List Ent} {d z : Nat} {f : Bool} {xs : List (List AV)} : AV.freeze n H (d + 1) (.sl f z xs) = some (.sl f z xs) := freeze_sl

theorem f75_spec (a b c : Img) (ha : a.length < 100000000) (hb : b.length < 100000000) (hc : c.length < 100000000) (Y : List YF) :
    callS ev fs 75 [zImg a, zImg b, zImg c] [] Y = some (.ret (.tup [zMerge a b c, zConf a b c, zI (mThree a b c)]), []) := by
  refine callS_by f75_eq rfl ?_
  simp only [bodyOf, Go.Proofs.Try.f75, Option.getD_some]
  have h73 := f73_spec a b c ha hb hc []
  have hcp := zConf_pure a b c
  by_cases h0 : ¬ mThree a b c = 0
  · simp only [zConf, h0, if_false, go_sem] at h73
    simp [go_sem, h73, h0, zMerge, zConf]
  replace h0 : mThree a b c = 0 := Decidable.not_not.1 h0
  obtain ⟨q1, q2, q3, s1, s2⟩ := alike_zero h0
  obtain ⟨r1, r2, r3⟩ := mCheck_zero q3
  obtain ⟨r4, r5, r6⟩ := mCheck_zero q1
  have la := sizes_len s1
  have lb := sizes_len s2
  simp only [zConf, h0, if_true, zMerge] at h73 ⊢
  generalize conf a b c = cf at *
  obtain ⟨H0, h33, hH0⟩ := f33_spec a ha (fun v hv => by have := (r6 v hv).2; omega) Y
  simp only [go_sem] at h33 h73
  obtain ⟨R, hR⟩ := fold_loop (E := ev) (C := callS ev fs) (Y := Y) (w := w75) (a := (loopsOf (bodyOf Go.Proofs.Try.f75))[0]?.getD .skip) (b := 0) 
    c (fun i (t : Img) vc => .inl (t.set i ((fun vc p => pick3 merge1 p.1 p.2 vc) vc (((a.zip b)[i]?).getD ([], []))))) a (ex := fun (r : Empty) => nomatch r)
    (fun i t st => (t.map List.length = c.map List.length ∧ (∀ j, i ≤ j → t[j]? = a[j]?)) ∧ Holds 0 t st.H ∧ LiveT [(0, zImg a), (1, zImg b), (2, zImg c), (9, zExtss cf), (11, .os 0 0 c.length c.length), (12, zI i)] 0 st)
    (fun t st => Holds 0 t st.H ∧ LiveT [(9, zExtss cf), (11, .os 0 0 c.length c.length)] 0 st) (fun r => nomatch r)
    (fun i t st hi h => by
      obtain ⟨⟨ht, hrest⟩, hH, h⟩ := h
      have hia : i < a.length := by omega
      have hib : i < b.length := by omega
      have hlt := sizes_len ht
      have hit : i < t.length := by omega
      have sa := sizes_get s1 hia hi
      have sb := sizes_get s2 hib hi
      have hvi := (r3 _ (List.getElem_mem hi)).2
      have hta : t[i] = a[i] := by
        have := hrest i (Nat.le_refl _)
        rw [List.getElem?_eq_getElem hit, List.getElem?_eq_getElem hia] at this
        simpa using this
      have hzip := zip_at hia hib ([], [])
      rw [hzip]
      obtain ⟨S, hS⟩ := fold_loop (E := ev) (C := callS ev fs) (Y := Y) (w := w75) (a := (loopsOf (bodyOf Go.Proofs.Try.f75))[1]?.getD .skip) (b := 2) 
        (c[i]) (fun k (x : Vol) z => .inl (x.set k ((fun z p => merge1 p.1 p.2 z) z (((a[i].zip b[i])[k]?).getD (sZero, sZero))))) a[i] (ex := fun (r : Empty) => nomatch r)
        (fun k x st => (x.length = (c[i]).length ∧ ∀ j, k ≤ j → x[j]? = a[i][j]?) ∧ Holds 0 (t.set i x) st.H ∧ LiveT [(0, zImg a), (1, zImg b), (2, zImg c), (9, zExtss cf), (11, .os 0 0 c.length c.length), (12, zI i), (13, zI k)] 0 st)
        (fun x st => Holds 0 (t.set i x) st.H ∧ LiveT [(0, zImg a), (1, zImg b), (2, zImg c), (9, zExtss cf), (11, .os 0 0 c.length c.length), (12, zI i)] 0 st) (fun r => nomatch r)
        (fun k x st hj h => by
          obtain ⟨⟨hx, hxr⟩, hH, h⟩ := h
          obtain ⟨tm, H, b⟩ := st
          simp only [bodyOf, Go.Proofs.Try.f75, Option.getD_some, loopsOf, rangesOf, List.nil_append, List.append_nil, List.cons_append, List.getElem?_cons_zero, List.getElem?_cons_succ]
          simp only [go_sem] at h
          obtain ⟨g0, g1, g2, g9, g11, g12, g13, rfl⟩ := h
          have hka : k < a[i].length := by omega
          have hkb : k < b[i].length := by omega
          have hkx : k < x.length := by omega
          have hxa := hxr k (Nat.le_refl _)
          rw [List.getElem?_eq_getElem hka] at hxa
          have hnext : ∀ y j, k + 1 ≤ j → (x.set k y)[j]? = a[i][j]? := fun y j hj => by rw [List.getElem?_set_ne (by omega)]; exact hxr j (by omega)
          rw [zip_at hka hkb]
          by_cases e1 : ¬ a[i][k] = c[i][k]
          · have hs := set_same hxa
            have hm : merge1 a[i][k] b[i][k] c[i][k] = a[i][k] := by simp [merge1, e1]
            have hn2 := hnext a[i][k]
            rw [hs] at hn2
            simp only [hm, hs]
            simp [go_sem, g0, g1, g2, g9, g11, g12, g13, hi, hia, hib, hj, hka, hkb, hx, e1, hn2, show i < 1000000000 by omega, show k < 1000000000 by omega]
            exact ⟨hn2, hH⟩
          replace e1 := Decidable.not_not.1 e1
          have hm : merge1 a[i][k] b[i][k] c[i][k] = b[i][k] := by simp [merge1, e1]
          simp only [hm]
          by_cases e2 : b[i][k] = c[i][k]
          · have hs := set_same hxa
            have hn2 := hnext a[i][k]
            rw [hs] at hn2
            have hbc : x.set k b[i][k] = x := by rw [e2, ← e1]; exact hs
            simp only [hbc]
            simp [go_sem, g0, g1, g2, g9, g11, g12, g13, hi, hia, hib, hj, hka, hkb, hx, e1, e2, hn2, show i < 1000000000 by omega, show k < 1000000000 by omega]
            exact ⟨hn2, hH⟩
          have htop := hH.top
          have hv := hH.vol i (by simpa using hit)
          have hfin := hH.set (j := i) (v := x.set k b[i][k]) (by simpa using hit) (by simp)
          have hxt : x.length = t[i].length := by rw [hx, hta]; omega
          simp only [List.length_set, List.getElem_set_self, List.set_set, List.map_set, imgRows_set 0 t 1 i x hit hxt] at htop hv hfin
          have hn2 := hnext b[i][k]
          simp [go_sem, g0, g1, g2, g9, g11, g12, g13, hi, hia, hib, hj, hka, hkb, hkx, hx, e1, e2, htop, hv, hfin, hit, hlt, hxt, imgRows_len, hta, sa, show i < 1000000000 by omega, show k < 1000000000 by omega]
          exact hn2)
        (fun x st h => by
          obtain ⟨_, hH, h⟩ := h
          obtain ⟨tm, H, b⟩ := st
          simp only [bodyOf, Go.Proofs.Try.f75, Option.getD_some, loopsOf, rangesOf, List.nil_append, List.append_nil, List.cons_append, List.getElem?_cons_zero, List.getElem?_cons_succ]
          simp only [go_sem] at h
          obtain ⟨g0, g1, g2, g9, g11, g12, g13, rfl⟩ := h
          simp [go_sem, g0, g1, g2, g9, g11, g12, g13, hi, hH])
        (fun r => nomatch r)
      simp only [bodyOf, Go.Proofs.Try.f75, Option.getD_some, loopsOf, rangesOf, List.nil_append, List.append_nil, List.cons_append, List.getElem?_cons_zero, List.getElem?_cons_succ] at hS
      have hfz : foldE (ρ := Empty) (fun k (x : Vol) z => .inl (x.set k ((fun z p => merge1 p.1 p.2 z) z (((a[i].zip b[i])[k]?).getD (sZero, sZero))))) 0 a[i] c[i] = .inl (pick3 merge1 a[i] b[i] c[i]) := by
        rw [foldE_fill (ρ := Empty) (fun z p => merge1 p.1 p.2 z) (sZero, sZero) (a[i].zip b[i]) c[i] 0 _ (by simp [List.length_zip]; omega) (by simp [List.length_zip]; omega)]
        rfl
      have hpl := pick3_len (q := merge1) sa sb
      simp only at hfz
      rw [hfz] at hS
      generalize hpk : pick3 merge1 a[i] b[i] c[i] = pk at *
      have hsz : (t.set i pk).map List.length = c.map List.length := by
        rw [List.map_set, ht, hpl]
        exact set_same (by simp [hi])
      have hrs : ∀ j, i + 1 ≤ j → (t.set i pk)[j]? = a[j]? := fun j hj => by rw [List.getElem?_set_ne (by omega)]; exact hrest j (by omega)
      have hHi := hH.same (j := i) (x := a[i]) (by rw [List.getElem?_eq_getElem hit, hta])
      simp [go_sem] at hS
      obtain ⟨tm, H, b⟩ := st
      simp only [bodyOf, Go.Proofs.Try.f75, Option.getD_some, loopsOf, rangesOf, List.nil_append, List.append_nil, List.cons_append, List.getElem?_cons_zero, List.getElem?_cons_succ]
      simp only [go_sem] at h
      obtain ⟨g0, g1, g2, g9, g11, g12, rfl⟩ := h
      simp only at hH hHi
      have hx0 : ∀ j, 0 ≤ j → a[i][j]? = a[i][j]? := fun _ _ => rfl
      simp only [List.map_set, List.length_set] at hsz
      simp [go_sem, g0, g1, g2, g9, g11, g12, hi, hS, hHi, hpk, sa, hsz, show i < 1000000000 by omega]
      exact hrs)
    (fun t st h => by
      obtain ⟨⟨ht, hrest⟩, hH, h⟩ := h
      obtain ⟨tm, H, b⟩ := st
      simp only [bodyOf, Go.Proofs.Try.f75, Option.getD_some, loopsOf, rangesOf, List.nil_append, List.append_nil, List.cons_append, List.getElem?_cons_zero, List.getElem?_cons_succ]
      simp only [go_sem] at h
      obtain ⟨g0, g1, g2, g9, g11, g12, rfl⟩ := h
      simp [go_sem, g0, g1, g2, g9, g11, g12]
      exact hH)
    (fun r => nomatch r)
  simp only [bodyOf, Go.Proofs.Try.f75, Option.getD_some, loopsOf, rangesOf, List.nil_append, List.append_nil, List.cons_append, List.getElem?_cons_zero, List.getElem?_cons_succ] at hR
  have hfz : foldE (ρ := Empty) (fun i (t : Img) vc => .inl (t.set i ((fun vc p => pick3 merge1 p.1 p.2 vc) vc (((a.zip b)[i]?).getD ([], []))))) 0 a c = .inl (choose merge1 a b c) := by
    rw [foldE_fill (ρ := Empty) (fun vc p => pick3 merge1 p.1 p.2 vc) ([], []) (a.zip b) c 0 _ (by simp [List.length_zip]; omega) (by simp [List.length_zip]; omega)]
    rfl
  have hcl := sizes_len (choose_sizes (q := merge1) s1 s2)
  simp only at hfz
  rw [hfz] at hR
  generalize choose merge1 a b c = ch at *
  simp [go_sem] at hR
  have hfr : ∀ st, a.map List.length = c.map List.length → Holds 0 a st.H → st.tm.get 0 = zImg a → st.tm.get 1 = zImg b → st.tm.get 2 = zImg c → st.tm.get 9 = zExtss cf → st.tm.get 11 = .os 0 0 c.length c.length → st.tm.get 12 = zI 0 → st.b = 0 →
      AV.freeze 0 (R st).H 5 (.os 0 0 c.length c.length) = some (zImg ch) := fun st a0 a1 a2 a3 a4 a5 a6 a7 a8 => by
    have b2 := (hR st a0 a1 a2 a3 a4 a5 a6 a7 a8).2.1
    rw [← hcl]
    exact freeze_img b2
  simp only [go_sem] at hfr
  simp [go_sem, h73, h0, h33, hH0, hR, hfr, s1, la]

theorem confs_len (a b c : Img) (h0 : mThree a b c = 0) : (conf a b c).length ≤ 8 ∧ ∀ x ∈ conf a b c, x.length ≤ 4096 := by
  obtain ⟨q1, q2, q3, s1, s2⟩ := alike_zero h0
  obtain ⟨r1, r2, r3⟩ := mCheck_zero q3
  have e1 := choose_sizes (q := mark) s1 s2
  have e2 := choose_sizes (q := blank) s1 s2
  have l1 := sizes_len e1
  refine ⟨by simp only [conf, List.length_zipWith]; omega, fun x hx => ?_⟩
  obtain ⟨i, hi, rfl⟩ := List.getElem_of_mem hx
  simp only [conf, List.getElem_zipWith]
  have l2 := sizes_len e2
  have hil : i < (choose mark a b c).length := by simp [conf, List.length_zipWith] at hi; omega
  have hil2 : i < (choose blank a b c).length := by omega
  have := mExt_len ((choose mark a b c)[i]'hil) ((choose blank a b c)[i]'hil2)
  have hs := sizes_get e1 hil (by omega : i < c.length)
  have := (r3 (c[i]'(by omega)) (List.getElem_mem _)).2
  omega

theorem f15_spec (a b c : Img) (Y : List YF) : callS ev fs 15 [zImg a, zImg b, zImg c] [] Y = some (.ret (zB true), []) := by
  refine callS_by f15_eq rfl ?_
  simp only [bodyOf, Go.Proofs.Try.f15, Option.getD_some]
  have hw := f61_call
  have h19a := f19_spec a []
  have h19b := f19_spec b []
  have h19c := f19_spec c []
  simp only [go_sem] at hw h19a h19b h19c
  cases c1 : mFew a
  · simp [go_sem, h19a, c1, hw]
  cases c2 : mFew b
  · simp [go_sem, h19a, h19b, c1, c2, hw]
  cases c3 : mFew c
  · simp [go_sem, h19a, h19b, h19c, c1, c2, c3, hw]
  obtain ⟨i1, i2⟩ := few_len c1
  obtain ⟨j1, j2⟩ := few_len c2
  obtain ⟨k1, k2⟩ := few_len c3
  have h72 := f72_spec a b c (by omega) (by omega) (by omega) []
  have h73 := f73_spec a b c (by omega) (by omega) (by omega) []
  have h74 := f74_spec a b c (by omega) (by omega) (by omega) []
  have h75 := f75_spec a b c (by omega) (by omega) (by omega) []
  have h76 : callS ev fs 76 [zConf a b c, zConf a b c] [] [] = some (.ret (zB true), []) := by
    unfold zConf
    by_cases h0 : mThree a b c = 0
    · simp only [h0, if_true]
      obtain ⟨l1, l2⟩ := confs_len a b c h0
      have := f76_spec (conf a b c) (conf a b c) (by omega) (fun x hx => by have := l2 x hx; omega) []
      simpa using this
    · simp only [h0, if_false]
      exact f76_nil
  have h25 : callS ev fs 25 [zMerge a b c, zMerge a b c] [] [] = some (.ret (zB true), []) := by
    unfold zMerge
    by_cases h0 : mThree a b c = 0
    · simp only [h0, if_true]
      obtain ⟨q1, q2, q3, s1, s2⟩ := alike_zero h0
      have e1 := choose_sizes (q := merge1) s1 s2
      have := f25_spec (choose merge1 a b c) (choose merge1 a b c) (by rw [sizes_len e1]; omega) (fun v hv => by have := sizes_mem e1 k2 v hv; omega) []
      simpa using this
    · simp only [h0, if_false]
      exact f25_nil
  have p1 := zConf_pure a b c
  have p2 := zMerge_pure a b c
  generalize zConf a b c = x at *
  generalize zMerge a b c = y at *
  simp only [go_sem] at h72 h73 h74 h75 h76 h25
  simp [go_sem, h19a, h19b, h19c, c1, c2, c3, hw, h72, h73, h74, h75, h76, h25, p1, p2]
end Go.Proofs.Ytlphdiccffnckaa

