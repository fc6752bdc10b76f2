/- Texts put together: Ioh, Ioj, Iok. -/
import Derived.Test.YtlphdiccffnckaaPao
import Derived.Test.YtlphdiccffnckaaPaq
import Derived.Test.YtlphdiccffnckaaPak

/- Layer 54: Merge of the reference; the law SplitbrainMerges. -/
namespace Go.Proofs.Ytlphdiccffnckaa
open Go Go.Abs
theorem f15_eq : fs 15 = some (mkFn {} Go.Proofs.Try.f15 (bodyOf Go.Proofs.Try.f15)) := by kernel_rfl

theorem set_same {α : Type} {t : List α} {k : Nat} {x : α} (h : t[k]? = some x) : t.set k x = t := by
  obtain ⟨hk, rfl⟩ := List.getElem?_eq_some_iff.1 h
  exact List.set_getElem_self hk
theorem Holds.same {u : Nat} {c : Img} {H : List Ent} (h : Holds u c H) {j : Nat} {x : Vol} (hj : c[j]? = some x) : Holds u (c.set j x) H := by rw [set_same hj]; exact h
theorem freeze_sl' {n : Nat} {H : List Ent} {d z : Nat} {f : Bool} {xs : List (List AV)} : AV.freeze n H (d + 1) (.sl f z xs) = some (.sl f z xs) := freeze_sl

theorem f75_spec (a b c : Img) (ha : a.length < 100000000) (hb : b.length < 100000000) (hc : c.length < 100000000) (Y : List YF) :
    callS ev fs 75 [zImg a, zImg b, zImg c] [] Y = some (.ret (.tup [zMerge a b c, zConf a b c, zI (mThree a b c)]), []) := by
  refine callS_by f75_eq rfl ?_
  simp only [bodyOf, Go.Proofs.Try.f75, Option.getD_some]
  have h73 := f73_spec a b c ha hb hc []
  have hcp := zConf_pure a b c
  by_cases h0 : ¬ mThree a b c = 0
  · simp only [zConf, h0, if_false, go_sem] at h73
    simp [go_sem, h73, h0, zMerge, zConf]
  replace h0 : mThree a b c = 0 := Decidable.not_not.1 h0
  obtain ⟨q1, q2, q3, s1, s2⟩ := alike_zero h0
  obtain ⟨r1, r2, r3⟩ := mCheck_zero q3
  obtain ⟨r4, r5, r6⟩ := mCheck_zero q1
  have la := sizes_len s1
  have lb := sizes_len s2
  simp only [zConf, h0, if_true, zMerge] at h73 ⊢
  generalize conf a b c = cf at *
  obtain ⟨H0, h33, hH0⟩ := f33_spec a ha (fun v hv => by have := (r6 v hv).2; omega) Y
  simp only [go_sem] at h33 h73
  obtain ⟨R, hR⟩ := fold_loop (E := ev) (C := callS ev fs) (Y := Y) (w := w75) (a := (loopsOf (bodyOf Go.Proofs.Try.f75))[0]?.getD .skip) (b := 0) 
    c (fun i (t : Img) vc => .inl (t.set i ((fun vc p => pick3 merge1 p.1 p.2 vc) vc (((a.zip b)[i]?).getD ([], []))))) a (ex := fun (r : Empty) => nomatch r)
    (fun i t st => (t.map List.length = c.map List.length ∧ (∀ j, i ≤ j → t[j]? = a[j]?)) ∧ Holds 0 t st.H ∧ LiveT [(0, zImg a), (1, zImg b), (2, zImg c), (9, zExtss cf), (11, .os 0 0 c.length c.length), (12, zI i)] 0 st)
    (fun t st => Holds 0 t st.H ∧ LiveT [(9, zExtss cf), (11, .os 0 0 c.length c.length)] 0 st) (fun r => nomatch r)
    (fun i t st hi h => by
      obtain ⟨⟨ht, hrest⟩, hH, h⟩ := h
      have hia : i < a.length := by omega
      have hib : i < b.length := by omega
      have hlt := sizes_len ht
      have hit : i < t.length := by omega
      have sa := sizes_get s1 hia hi
      have sb := sizes_get s2 hib hi
      have hvi := (r3 _ (List.getElem_mem hi)).2
      have hta : t[i] = a[i] := by
        have := hrest i (Nat.le_refl _)
        rw [List.getElem?_eq_getElem hit, List.getElem?_eq_getElem hia] at this
        simpa using this
      have hzip := zip_at hia hib ([], [])
      rw [hzip]
      obtain ⟨S, hS⟩ := fold_loop (E := ev) (C := callS ev fs) (Y := Y) (w := w75) (a := (loopsOf (bodyOf Go.Proofs.Try.f75))[1]?.getD .skip) (b := 2) 
        (c[i]) (fun k (x : Vol) z => .inl (x.set k ((fun z p => merge1 p.1 p.2 z) z (((a[i].zip b[i])[k]?).getD (sZero, sZero))))) a[i] (ex := fun (r : Empty) => nomatch r)
        (fun k x st => (x.length = (c[i]).length ∧ ∀ j, k ≤ j → x[j]? = a[i][j]?) ∧ Holds 0 (t.set i x) st.H ∧ LiveT [(0, zImg a), (1, zImg b), (2, zImg c), (9, zExtss cf), (11, .os 0 0 c.length c.length), (12, zI i), (13, zI k)] 0 st)
        (fun x st => Holds 0 (t.set i x) st.H ∧ LiveT [(0, zImg a), (1, zImg b), (2, zImg c), (9, zExtss cf), (11, .os 0 0 c.length c.length), (12, zI i)] 0 st) (fun r => nomatch r)
        (fun k x st hj h => by
          obtain ⟨⟨hx, hxr⟩, hH, h⟩ := h
          obtain ⟨tm, H, b⟩ := st
          simp only [bodyOf, Go.Proofs.Try.f75, Option.getD_some, loopsOf, rangesOf, List.nil_append, List.append_nil, List.cons_append, List.getElem?_cons_zero, List.getElem?_cons_succ]
          simp only [go_sem] at h
          obtain ⟨g0, g1, g2, g9, g11, g12, g13, rfl⟩ := h
          have hka : k < a[i].length := by omega
          have hkb : k < b[i].length := by omega
          have hkx : k < x.length := by omega
          have hxa := hxr k (Nat.le_refl _)
          rw [List.getElem?_eq_getElem hka] at hxa
          have hnext : ∀ y j, k + 1 ≤ j → (x.set k y)[j]? = a[i][j]? := fun y j hj => by rw [List.getElem?_set_ne (by omega)]; exact hxr j (by omega)
          rw [zip_at hka hkb]
          by_cases e1 : ¬ a[i][k] = c[i][k]
          · have hs := set_same hxa
            have hm : merge1 a[i][k] b[i][k] c[i][k] = a[i][k] := by simp [merge1, e1]
            have hn2 := hnext a[i][k]
            rw [hs] at hn2
            simp only [hm, hs]
            simp [go_sem, g0, g1, g2, g9, g11, g12, g13, hi, hia, hib, hj, hka, hkb, hx, e1, hn2, show i < 1000000000 by omega, show k < 1000000000 by omega]
            exact ⟨hn2, hH⟩
          replace e1 := Decidable.not_not.1 e1
          have hm : merge1 a[i][k] b[i][k] c[i][k] = b[i][k] := by simp [merge1, e1]
          simp only [hm]
          by_cases e2 : b[i][k] = c[i][k]
          · have hs := set_same hxa
            have hn2 := hnext a[i][k]
            rw [hs] at hn2
            have hbc : x.set k b[i][k] = x := by rw [e2, ← e1]; exact hs
            simp only [hbc]
            simp [go_sem, g0, g1, g2, g9, g11, g12, g13, hi, hia, hib, hj, hka, hkb, hx, e1, e2, hn2, show i < 1000000000 by omega, show k < 1000000000 by omega]
            exact ⟨hn2, hH⟩
          have htop := hH.top
          have hv := hH.vol i (by simpa using hit)
          have hfin := hH.set (j := i) (v := x.set k b[i][k]) (by simpa using hit) (by simp)
          have hxt : x.length = t[i].length := by rw [hx, hta]; omega
          simp only [List.length_set, List.getElem_set_self, List.set_set, List.map_set, imgRows_set 0 t 1 i x hit hxt] at htop hv hfin
          have hn2 := hnext b[i][k]
          simp [go_sem, g0, g1, g2, g9, g11, g12, g13, hi, hia, hib, hj, hka, hkb, hkx, hx, e1, e2, htop, hv, hfin, hit, hlt, hxt, imgRows_len, hta, sa, show i < 1000000000 by omega, show k < 1000000000 by omega]
          exact hn2)
        (fun x st h => by
          obtain ⟨_, hH, h⟩ := h
          obtain ⟨tm, H, b⟩ := st
          simp only [bodyOf, Go.Proofs.Try.f75, Option.getD_some, loopsOf, rangesOf, List.nil_append, List.append_nil, List.cons_append, List.getElem?_cons_zero, List.getElem?_cons_succ]
          simp only [go_sem] at h
          obtain ⟨g0, g1, g2, g9, g11, g12, g13, rfl⟩ := h
          simp [go_sem, g0, g1, g2, g9, g11, g12, g13, hi, hH])
        (fun r => nomatch r)
      simp only [bodyOf, Go.Proofs.Try.f75, Option.getD_some, loopsOf, rangesOf, List.nil_append, List.append_nil, List.cons_append, List.getElem?_cons_zero, List.getElem?_cons_succ] at hS
      have hfz : foldE (ρ := Empty) (fun k (x : Vol) z => .inl (x.set k ((fun z p => merge1 p.1 p.2 z) z (((a[i].zip b[i])[k]?).getD (sZero, sZero))))) 0 a[i] c[i] = .inl (pick3 merge1 a[i] b[i] c[i]) := by
        rw [foldE_fill (ρ := Empty) (fun z p => merge1 p.1 p.2 z) (sZero, sZero) (a[i].zip b[i]) c[i] 0 _ (by simp [List.length_zip]; omega) (by simp [List.length_zip]; omega)]
        rfl
      have hpl := pick3_len (q := merge1) sa sb
      simp only at hfz
      rw [hfz] at hS
      generalize hpk : pick3 merge1 a[i] b[i] c[i] = pk at *
      have hsz : (t.set i pk).map List.length = c.map List.length := by
        rw [List.map_set, ht, hpl]
        exact set_same (by simp [hi])
      have hrs : ∀ j, i + 1 ≤ j → (t.set i pk)[j]? = a[j]? := fun j hj => by rw [List.getElem?_set_ne (by omega)]; exact hrest j (by omega)
      have hHi := hH.same (j := i) (x := a[i]) (by rw [List.getElem?_eq_getElem hit, hta])
      simp [go_sem] at hS
      obtain ⟨tm, H, b⟩ := st
      simp only [bodyOf, Go.Proofs.Try.f75, Option.getD_some, loopsOf, rangesOf, List.nil_append, List.append_nil, List.cons_append, List.getElem?_cons_zero, List.getElem?_cons_succ]
      simp only [go_sem] at h
      obtain ⟨g0, g1, g2, g9, g11, g12, rfl⟩ := h
      simp only at hH hHi
      have hx0 : ∀ j, 0 ≤ j → a[i][j]? = a[i][j]? := fun _ _ => rfl
      simp only [List.map_set, List.length_set] at hsz
      simp [go_sem, g0, g1, g2, g9, g11, g12, hi, hS, hHi, hpk, sa, hsz, show i < 1000000000 by omega]
      exact hrs)
    (fun t st h => by
      obtain ⟨⟨ht, hrest⟩, hH, h⟩ := h
      obtain ⟨tm, H, b⟩ := st
      simp only [bodyOf, Go.Proofs.Try.f75, Option.getD_some, loopsOf, rangesOf, List.nil_append, List.append_nil, List.cons_append, List.getElem?_cons_zero, List.getElem?_cons_succ]
      simp only [go_sem] at h
      obtain ⟨g0, g1, g2, g9, g11, g12, rfl⟩ := h
      simp [go_sem, g0, g1, g2, g9, g11, g12]
      exact hH)
    (fun r => nomatch r)
  simp only [bodyOf, Go.Proofs.Try.f75, Option.getD_some, loopsOf, rangesOf, List.nil_append, List.append_nil, List.cons_append, List.getElem?_cons_zero, List.getElem?_cons_succ] at hR
  have hfz : foldE (ρ := Empty) (fun i (t : Img) vc => .inl (t.set i ((fun vc p => pick3 merge1 p.1 p.2 vc) vc (((a.zip b)[i]?).getD ([], []))))) 0 a c = .inl (choose merge1 a b c) := by
    rw [foldE_fill (ρ := Empty) (fun vc p => pick3 merge1 p.1 p.2 vc) ([], []) (a.zip b) c 0 _ (by simp [List.length_zip]; omega) (by simp [List.length_zip]; omega)]
    rfl
  have hcl := sizes_len (choose_sizes (q := merge1) s1 s2)
  simp only at hfz
  rw [hfz] at hR
  generalize choose merge1 a b c = ch at *
  simp [go_sem] at hR
  have hfr : ∀ st, a.map List.length = c.map List.length → Holds 0 a st.H → st.tm.get 0 = zImg a → st.tm.get 1 = zImg b → st.tm.get 2 = zImg c → st.tm.get 9 = zExtss cf → st.tm.get 11 = .os 0 0 c.length c.length → st.tm.get 12 = zI 0 → st.b = 0 →
      AV.freeze 0 (R st).H 5 (.os 0 0 c.length c.length) = some (zImg ch) := fun st a0 a1 a2 a3 a4 a5 a6 a7 a8 => by
    have b2 := (hR st a0 a1 a2 a3 a4 a5 a6 a7 a8).2.1
    rw [← hcl]
    exact freeze_img b2
  simp only [go_sem] at hfr
  simp [go_sem, h73, h0, h33, hH0, hR, hfr, s1, la]

theorem confs_len (a b c : Img) (h0 : mThree a b c = 0) : (conf a b c).length ≤ 8 ∧ ∀ x ∈ conf a b c, x.length ≤ 4096 := by
  obtain ⟨q1, q2, q3, s1, s2⟩ := alike_zero h0
  obtain ⟨r1, r2, r3⟩ := mCheck_zero q3
  have e1 := choose_sizes (q := mark) s1 s2
  have e2 := choose_sizes (q := blank) s1 s2
  have l1 := sizes_len e1
  refine ⟨by simp only [conf, List.length_zipWith]; omega, fun x hx => ?_⟩
  obtain ⟨i, hi, rfl⟩ := List.getElem_of_mem hx
  simp only [conf, List.getElem_zipWith]
  have l2 := sizes_len e2
  have hil : i < (choose mark a b c).length := by simp [conf, List.length_zipWith] at hi; omega
  have hil2 : i < (choose blank a b c).length := by omega
  have := mExt_len ((choose mark a b c)[i]'hil) ((choose blank a b c)[i]'hil2)
  have hs := sizes_get e1 hil (by omega : i < c.length)
  have := (r3 (c[i]'(by omega)) (List.getElem_mem _)).2
  omega

theorem f15_spec (a b c : Img) (Y : List YF) : callS ev fs 15 [zImg a, zImg b, zImg c] [] Y = some (.ret (zB true), []) := by
  refine callS_by f15_eq rfl ?_
  simp only [bodyOf, Go.Proofs.Try.f15, Option.getD_some]
  have hw := f61_call
  have h19a := f19_spec a []
  have h19b := f19_spec b []
  have h19c := f19_spec c []
  simp only [go_sem] at hw h19a h19b h19c
  cases c1 : mFew a
  · simp [go_sem, h19a, c1, hw]
  cases c2 : mFew b
  · simp [go_sem, h19a, h19b, c1, c2, hw]
  cases c3 : mFew c
  · simp [go_sem, h19a, h19b, h19c, c1, c2, c3, hw]
  obtain ⟨i1, i2⟩ := few_len c1
  obtain ⟨j1, j2⟩ := few_len c2
  obtain ⟨k1, k2⟩ := few_len c3
  have h72 := f72_spec a b c (by omega) (by omega) (by omega) []
  have h73 := f73_spec a b c (by omega) (by omega) (by omega) []
  have h74 := f74_spec a b c (by omega) (by omega) (by omega) []
  have h75 := f75_spec a b c (by omega) (by omega) (by omega) []
  have h76 : callS ev fs 76 [zConf a b c, zConf a b c] [] [] = some (.ret (zB true), []) := by
    unfold zConf
    by_cases h0 : mThree a b c = 0
    · simp only [h0, if_true]
      obtain ⟨l1, l2⟩ := confs_len a b c h0
      have := f76_spec (conf a b c) (conf a b c) (by omega) (fun x hx => by have := l2 x hx; omega) []
      simpa using this
    · simp only [h0, if_false]
      exact f76_nil
  have h25 : callS ev fs 25 [zMerge a b c, zMerge a b c] [] [] = some (.ret (zB true), []) := by
    unfold zMerge
    by_cases h0 : mThree a b c = 0
    · simp only [h0, if_true]
      obtain ⟨q1, q2, q3, s1, s2⟩ := alike_zero h0
      have e1 := choose_sizes (q := merge1) s1 s2
      have := f25_spec (choose merge1 a b c) (choose merge1 a b c) (by rw [sizes_len e1]; omega) (fun v hv => by have := sizes_mem e1 k2 v hv; omega) []
      simpa using this
    · simp only [h0, if_false]
      exact f25_nil
  have p1 := zConf_pure a b c
  have p2 := zMerge_pure a b c
  generalize zConf a b c = x at *
  generalize zMerge a b c = y at *
  simp only [go_sem] at h72 h73 h74 h75 h76 h25
  simp [go_sem, h19a, h19b, h19c, c1, c2, c3, hw, h72, h73, h74, h75, h76, h25, p1, p2]
end Go.Proofs.Ytlphdiccffnckaa

/- Layer 54: what the law SplitbrainCombines calls. -/
namespace Go.Proofs.Ytlphdiccffnckaa
open Go Go.Abs
theorem f17_eq : fs 17 = some (mkFn w17 Go.Proofs.Try.f17 (bodyOf Go.Proofs.Try.f17)) := by kernel_rfl
theorem f80_eq : fs 80 = some (mkFn {} Go.Proofs.Try.f80 (bodyOf Go.Proofs.Try.f80)) := by kernel_rfl
theorem f81_eq : fs 81 = some (mkFn w81 Go.Proofs.Try.f81 (bodyOf Go.Proofs.Try.f81)) := by kernel_rfl
theorem f82_eq : fs 82 = some (mkFn {} Go.Proofs.Try.f82 (bodyOf Go.Proofs.Try.f82)) := by kernel_rfl
theorem f172_eq : fs 172 = some (mkFn w172 Go.Proofs.Try.f172 (bodyOf Go.Proofs.Try.f172)) := by kernel_rfl

/-- Writes are few and small. -/
def mFew22 (l : List Wr) : Bool := decide (l.length ≤ 40) && !(l.take 60).any fun w => decide (24 < w.d.length)
theorem few22 {l : List Wr} (h : mFew22 l = true) : l.length ≤ 40 ∧ ∀ w ∈ l, w.d.length ≤ 24 := by
  simp only [mFew22, Bool.and_eq_true, decide_eq_true_eq, Bool.not_eq_true', List.any_eq_false] at h
  refine ⟨h.1, fun w hw => ?_⟩
  have := h.2 w (by rw [List.take_of_length_le (by omega)]; exact hw)
  omega
theorem f80_spec (l : List Wr) (Y : List YF) : callS ev fs 80 [zWrs l] [] Y = some (.ret (zB (mFew22 l)), []) := by
  refine callS_by f80_eq rfl ?_
  simp only [bodyOf, Go.Proofs.Try.f80, Option.getD_some]
  obtain ⟨R, hR⟩ := fold_loop (E := ev) (C := callS ev fs) (Y := Y) (w := {}) (a := (loopsOf (bodyOf Go.Proofs.Try.f80))[0]?.getD .skip) (b := 0) 
    (l.take 60) (fun _ (_ : Unit) w => if decide (24 < w.d.length) = true then .inr () else .inl ()) () (ex := fun _ => .ret)
    (fun i _ => Live [(0, zWrs l), (3, zI i)] [] 0) (fun _ => Live [(0, zWrs l)] [] 0) (fun _ => Live [(2, zB false)] [] 0)
    (fun i s st hi h => by
      obtain ⟨tm, H, b⟩ := st
      simp only [bodyOf, Go.Proofs.Try.f80, Option.getD_some, loopsOf, rangesOf, List.nil_append, List.append_nil, List.cons_append, List.getElem?_cons_zero, List.getElem?_cons_succ]
      simp only [go_sem] at h
      obtain ⟨h0, h3, rfl, rfl⟩ := h
      have h60 : i < 60 ∧ i < l.length := by rw [List.length_take] at hi; omega
      simp only [List.getElem_take]
      by_cases c : 24 < l[i].d.length
      · simp [go_sem, h0, h3, h60, c]
      · simp [go_sem, h0, h3, h60, c, show i < 1000000000 by omega])
    (fun s st h => by
      obtain ⟨tm, H, b⟩ := st
      simp only [bodyOf, Go.Proofs.Try.f80, Option.getD_some, loopsOf, rangesOf, List.nil_append, List.append_nil, List.cons_append, List.getElem?_cons_zero, List.getElem?_cons_succ]
      simp only [go_sem] at h
      obtain ⟨h0, h3, rfl, rfl⟩ := h
      simp only [List.length_take] at h3
      by_cases h60 : l.length ≤ 60
      · rw [Nat.min_eq_right h60] at h3
        simp [go_sem, h0, h3]
      · rw [Nat.min_eq_left (by omega)] at h3
        simp [go_sem, h0, h3, show 60 < l.length by omega])
    (fun _ h => by cases h)
  simp only [bodyOf, Go.Proofs.Try.f80, Option.getD_some, loopsOf, rangesOf, List.nil_append, List.append_nil, List.cons_append, List.getElem?_cons_zero, List.getElem?_cons_succ] at hR
  rw [foldE_any] at hR
  simp only [mFew22]
  cases ha : (l.take 60).any fun w => decide (24 < w.d.length)
  · simp [go_sem, ha] at hR
    by_cases c : l.length ≤ 40
    · simp [go_sem, hR, c]
    · simp [go_sem, hR, c]
  · simp [go_sem, ha] at hR
    simp [go_sem, hR]

theorem f172_spec (xs : List Ext) (g : Nat) (caps : List AV) (p : Ext → Bool) (H : List Ent) (hl : xs.length < 1000000000) (Y : List YF)
    (hg : ∀ x ∈ xs, callS ev fs g (.agg (extRow x) :: caps) H Y = some (.ret (zB (p x)), H)) :
    callS ev fs 172 [zExts xs, .fn g caps] H Y = some (.ret (zI (match xs.findIdx? p with | some j => (j : Int) | none => -1)), H) := by
  refine callS_by f172_eq rfl ?_
  simp only [bodyOf, Go.Proofs.Try.f172, Option.getD_some]
  obtain ⟨R, hR⟩ := fold_loop (E := ev) (C := callS ev fs) (Y := Y) (w := w172) (a := (loopsOf (bodyOf Go.Proofs.Try.f172))[0]?.getD .skip) (b := 0) 
    xs (fun i (_ : Unit) x => if p x = true then .inr i else .inl ()) () (ex := fun _ => .ret)
    (fun i _ => Live [(0, zExts xs), (1, .fn g caps), (7, zI xs.length), (8, zI i)] H H.length) (fun _ => Live [] H H.length) (fun j => Live [(4, zI j)] H H.length)
    (fun i s st hi h => by
      obtain ⟨tm, H, b⟩ := st
      simp only [bodyOf, Go.Proofs.Try.f172, Option.getD_some, loopsOf, rangesOf, List.nil_append, List.append_nil, List.cons_append, List.getElem?_cons_zero, List.getElem?_cons_succ]
      simp only [go_sem] at h
      obtain ⟨h0, h1, h7, h8, rfl, rfl⟩ := h
      have hgx := hg xs[i] (List.getElem_mem hi)
      simp only [go_sem] at hgx
      cases hp : p xs[i] <;> simp [go_sem, h0, h1, h7, h8, hi, hp, hgx, show i < 1000000000 by omega])
    (fun s st h => by
      obtain ⟨tm, H, b⟩ := st
      simp only [bodyOf, Go.Proofs.Try.f172, Option.getD_some, loopsOf, rangesOf, List.nil_append, List.append_nil, List.cons_append, List.getElem?_cons_zero, List.getElem?_cons_succ]
      simp only [go_sem] at h
      obtain ⟨h0, h1, h7, h8, rfl, rfl⟩ := h
      simp [go_sem, h7, h8])
    (fun _ h => by cases h)
  simp only [bodyOf, Go.Proofs.Try.f172, Option.getD_some, loopsOf, rangesOf, List.nil_append, List.append_nil, List.cons_append, List.getElem?_cons_zero, List.getElem?_cons_succ] at hR
  rw [foldE_idx] at hR
  cases hf : xs.findIdx? p <;> simp [go_sem, hf] at hR <;> simp [go_sem, hR]

theorem f81_spec (xs : List Ext) (g : Nat) (caps : List AV) (p : Ext → Bool) (H : List Ent) (hl : xs.length < 1000000000) (Y : List YF)
    (hg : ∀ x ∈ xs, callS ev fs g (.agg (extRow x) :: caps) H Y = some (.ret (zB (p x)), H)) :
    callS ev fs 81 [zExts xs, .fn g caps] H Y = some (.ret (zB (xs.any p)), H) := by
  refine callS_by f81_eq rfl ?_
  simp only [bodyOf, Go.Proofs.Try.f81, Option.getD_some]
  have h := f172_spec xs g caps p H hl Y hg
  simp only [go_sem] at h
  have hm : xs.any p = (xs.findIdx? p).isSome := by rw [List.findIdx?_isSome]
  rw [hm]
  cases hf : xs.findIdx? p <;> simp [go_sem, hf] at h <;> simp [go_sem, h]

theorem f82_spec (k : Nat) (x : Ext) (H : List Ent) (j : Nat) (hj : H[j]? = some (.box [zI k])) (hk : k < 1000000000) (hx : 0 ≤ x.s) (Y : List YF) :
    callS ev fs 82 [.agg (extRow x), .bp j 0] H Y = some (.ret (zB (decide (x.s ≤ k ∧ (k : Int) - x.s < x.n))), H) := by
  refine callS_by f82_eq rfl ?_
  simp only [bodyOf, Go.Proofs.Try.f82, Option.getD_some]
  have gj := fun B => app_at hj B
  by_cases c : x.s ≤ k
  · have hw := wrap64 (x := (k : Int) - x.s) (by omega)
    simp [go_sem] at gj
    simp [go_sem, gj, c, hw]
  · simp [go_sem] at gj
    simp [go_sem, gj, c]

instance (x : Ext) (k : Nat) : Decidable (covX x k) := by unfold covX; infer_instance
theorem any_cov {l : List Ext} {k : Nat} : (l.any fun x => decide (x.s ≤ k ∧ (k : Int) - x.s < x.n)) = decide (∃ x ∈ l, covX x k) := by
  rw [Bool.eq_iff_iff, List.any_eq_true, decide_eq_true_eq]
  constructor
  · rintro ⟨x, h1, h2⟩
    simp only [decide_eq_true_eq] at h2
    exact ⟨x, h1, by unfold covX; omega⟩
  · rintro ⟨x, h1, h2⟩
    unfold covX at h2
    exact ⟨x, h1, by simp only [decide_eq_true_eq]; omega⟩

theorem conf_cov {va vb vc : Vol} (h1 : va.length = vc.length) (h2 : vb.length = vc.length) {k : Nat} (hk : k < vc.length) :
    decide (∃ x ∈ mExt (pick3 mark va vb vc) (pick3 blank va vb vc), covX x k) = inConf (va[k]'(by omega)) (vb[k]'(by omega)) vc[k] := by
  have l1 := pick3_len (q := mark) h1 h2
  have l2 := pick3_len (q := blank) h1 h2
  have e1 : (pick3 mark va vb vc)[k]'(by omega) = mark (va[k]'(by omega)) (vb[k]'(by omega)) vc[k] := by simp [pick3]
  have e2 : (pick3 blank va vb vc)[k]'(by omega) = blank (va[k]'(by omega)) (vb[k]'(by omega)) vc[k] := by simp [pick3]
  rw [Bool.eq_iff_iff, decide_eq_true_eq, mExt_cov]
  have e3 : (pick3 blank va vb vc)[k]? = some (blank (va[k]'(by omega)) (vb[k]'(by omega)) vc[k]) := by rw [List.getElem?_eq_getElem (by omega), e2]
  rw [e3]
  constructor
  · rintro ⟨h, hne⟩
    rw [e1] at hne
    cases hc : inConf (va[k]'(by omega)) (vb[k]'(by omega)) vc[k] with
    | true => rfl
    | false => exact absurd (congrArg some ((mark_blank _ _ _).2 hc)) hne
  · intro hc
    refine ⟨by omega, ?_⟩
    rw [e1]
    intro he
    have := (mark_blank _ _ _).1 (Option.some.inj he)
    rw [hc] at this
    cases this

theorem inConf_comm (x y z : Sec) : inConf x y z = inConf y x z := by
  unfold inConf
  by_cases h1 : x = z
  · by_cases h2 : y = z
    · simp [h1, h2]
    · simp [h1, h2]
  · by_cases h2 : y = z
    · simp [h1, h2]
    · by_cases h3 : x = y
      · simp [h1, h2, h3]
      · simp [h1, h2, h3, Ne.symm h3]
theorem mark_comm (x y z : Sec) : mark x y z = mark y x z := by unfold mark; rw [inConf_comm]
theorem pick3_congr {q q' : Sec → Sec → Sec → Sec} {va vb vc : Vol} (h1 : va.length = vc.length) (h2 : vb.length = vc.length) (h : ∀ x y z, q x y z = q' y x z) : pick3 q va vb vc = pick3 q' vb va vc := by
  refine List.ext_getElem (by rw [pick3_len h1 h2, pick3_len h2 h1]) fun i p1 p2 => ?_
  simp [pick3, h]
theorem choose_congr {q q' : Sec → Sec → Sec → Sec} {a b c : Img} (h1 : a.map List.length = c.map List.length) (h2 : b.map List.length = c.map List.length) (h : ∀ x y z, q x y z = q' y x z) : choose q a b c = choose q' b a c := by
  refine List.ext_getElem (by rw [sizes_len (choose_sizes h1 h2), sizes_len (choose_sizes h2 h1)]) fun i p1 p2 => ?_
  have hc : i < c.length := by rw [sizes_len (choose_sizes h1 h2)] at p1; exact p1
  have l1 := sizes_len h1
  have l2 := sizes_len h2
  simp only [choose, List.getElem_zipWith, List.getElem_zip]
  exact pick3_congr (sizes_get h1 (by omega) hc) (sizes_get h2 (by omega) hc) h
theorem conf_comm {a b c : Img} (h1 : a.map List.length = c.map List.length) (h2 : b.map List.length = c.map List.length) : conf b a c = conf a b c := by
  unfold conf
  rw [choose_congr h2 h1 (q := mark) (q' := mark) (fun x y z => mark_comm x y z), choose_congr h2 h1 (q := blank) (q' := blank) (fun x y z => rfl)]
theorem three_comm {a b c : Img} (h : mThree a b c = 0) : mThree b a c = 0 := by
  obtain ⟨q1, q2, q3, s1, s2⟩ := alike_zero h
  simp [mThree, q1, q2, q3, s1, s2]

theorem choose_left {a c : Img} (h1 : a.map List.length = c.map List.length) : choose merge1 a c c = a := by
  have l1 := sizes_len h1
  refine List.ext_getElem (by rw [sizes_len (choose_sizes h1 rfl)]; exact l1.symm) fun i p1 p2 => ?_
  have hs := sizes_get h1 p2 (by omega)
  simp only [choose, List.getElem_zipWith, List.getElem_zip]
  refine List.ext_getElem (by rw [pick3_len hs rfl]; exact hs.symm) fun k p3 p4 => ?_
  simp only [pick3, List.getElem_zipWith, List.getElem_zip, merge1]
  split
  · rename_i h; exact h.symm
  · rfl
theorem choose_right {a c : Img} (h1 : a.map List.length = c.map List.length) : choose merge1 c a c = a := by
  have l1 := sizes_len h1
  refine List.ext_getElem (by rw [sizes_len (choose_sizes rfl h1)]; exact l1.symm) fun i p1 p2 => ?_
  have hs := sizes_get h1 p2 (by omega)
  simp only [choose, List.getElem_zipWith, List.getElem_zip]
  refine List.ext_getElem (by rw [pick3_len rfl hs]; exact hs.symm) fun k p3 p4 => ?_
  simp [pick3, merge1]

/-- Where nothing is in conflict, there are no extents. -/
theorem mList_none (ms : List Bool) (h : ∀ m ∈ ms, m = false) : mList ms = [] := by
  have key : ∀ (l : List Bool) (i : Nat), (∀ m ∈ l, m = false) → foldE markF i [] l = .inl [] := by
    intro l
    induction l with
    | nil => intro i _; rfl
    | cons m l ih =>
      intro i h
      have hm := h m (by simp)
      subst hm
      simp only [foldE, markF, Bool.false_eq_true, if_false]
      exact ih (i + 1) (fun m hm => h m (by simp [hm]))
  have := key ms 0 h
  unfold mList
  rw [this]
theorem conf_none {a b c : Img} (h1 : a.map List.length = c.map List.length) (h2 : b.map List.length = c.map List.length) (h : a = c ∨ b = c) : ∀ x ∈ conf a b c, x = [] := by
  intro x hx
  obtain ⟨i, hi, rfl⟩ := List.getElem_of_mem hx
  have l1 := sizes_len h1
  have l2 := sizes_len h2
  have hc : i < c.length := by
    simp only [conf, choose, List.length_zipWith, List.length_zip] at hi
    omega
  simp only [conf, choose, List.getElem_zipWith, List.getElem_zip]
  rw [ext_marks _ _ _ (sizes_get h1 (by omega) hc) (sizes_get h2 (by omega) hc)]
  refine mList_none _ fun m hm => ?_
  obtain ⟨k, hk, rfl⟩ := List.getElem_of_mem hm
  simp only [marks, List.getElem_zipWith, List.getElem_zip, inConf]
  rcases h with rfl | rfl
  · simp
  · simp
end Go.Proofs.Ytlphdiccffnckaa

/- Layer 54: the loops of the law SplitbrainCombines. -/
namespace Go.Proofs.Ytlphdiccffnckaa
open Go Go.Abs

set_option maxHeartbeats 1000000 in
theorem f17_loop (a b c m o : Img) (l nn1 nn2 : List (List Ext)) (k1 : c.length ≤ 9) (k2 : ∀ v ∈ c, v.length ≤ 24)
    (sa : a.map List.length = c.map List.length) (sb : b.map List.length = c.map List.length) (sm : m.map List.length = c.map List.length) (so : o.map List.length = c.map List.length)
    (ll : l.length = c.length) (ln1 : nn1.length = c.length) (ln2 : nn2.length = c.length) (cb : ∀ x ∈ l, x.length < 1000000000) (hx0 : ∀ x ∈ l, ∀ e ∈ x, 0 ≤ e.s)
    (hm : ∀ i k x y z, secAt a i k = some x → secAt b i k = some y → secAt c i k = some z → secAt m i k = some (merge1 x y z))
    (ho : ∀ i k x y z, secAt a i k = some x → secAt b i k = some y → secAt c i k = some z → secAt o i k = some (merge1 y x z))
    (hc : ∀ i k x y z, secAt a i k = some x → secAt b i k = some y → secAt c i k = some z → (l[i]?).map (fun w => w.any fun x => decide (x.s ≤ k ∧ (k : Int) - x.s < x.n)) = some (inConf x y z))
    (hn1 : ∀ x ∈ nn1, x = []) (hn2 : ∀ x ∈ nn2, x = []) (A B : AV) (hAB : AV.pure A = true ∧ AV.pure B = true) (Y : List YF) :
    ∃ R : St → St, ∀ st, Live [(0, zImg c), (5, zImg a), (8, zImg b), (11, zImg m), (12, zExtss l), (14, zImg o), (18, zExtss nn1), (21, zExtss nn2), (153, zI c.length), (154, zI 0)] [.box [A, B]] 0 st →
      loopC ev (callS ev fs) Y w17 ((loopsOf (bodyOf Go.Proofs.Try.f17))[0]?.getD .skip) st = some (.exit 0, R st) ∧ (R st).b = 0 := by
  have la := sizes_len sa
  have lb := sizes_len sb
  have lm := sizes_len sm
  have lo := sizes_len so
  have huA := pure_under 1 A hAB.1
  have huB := pure_under 1 B hAB.2
  obtain ⟨R, hR⟩ := fold_loop (E := ev) (C := callS ev fs) (Y := Y) (w := w17) (a := (loopsOf (bodyOf Go.Proofs.Try.f17))[0]?.getD .skip) (b := 0) 
    c (fun _ (_ : Unit) _ => .inl ()) () (ex := fun (r : Empty) => nomatch r)
    (fun i _ st => (∃ B', st.H = .box [A, B] :: B') ∧ LiveT [(0, zImg c), (5, zImg a), (8, zImg b), (11, zImg m), (12, zExtss l), (14, zImg o), (18, zExtss nn1), (21, zExtss nn2), (153, zI c.length), (154, zI i)] 0 st)
    (fun _ => LiveT [] 0) (fun r => nomatch r)
    (fun i _ st hi h => by
      obtain ⟨⟨B', hH⟩, h⟩ := h
      have ia : i < a.length := by omega
      have ib : i < b.length := by omega
      have im : i < m.length := by omega
      have io : i < o.length := by omega
      have il : i < l.length := by omega
      have i1 : i < nn1.length := by omega
      have i2 : i < nn2.length := by omega
      have sai := sizes_get sa ia hi
      have sbi := sizes_get sb ib hi
      have smi := sizes_get sm im hi
      have soi := sizes_get so io hi
      have k2i := k2 _ (List.getElem_mem hi)
      have e1 := hn1 _ (List.getElem_mem i1)
      have e2 := hn2 _ (List.getElem_mem i2)
      have cbi := cb _ (List.getElem_mem il)
      have hxi := hx0 _ (List.getElem_mem il)
      obtain ⟨S, hS⟩ := fold_loop (E := ev) (C := callS ev fs) (Y := Y) (w := w17) (a := (loopsOf (bodyOf Go.Proofs.Try.f17))[1]?.getD .skip) (b := 2) 
        (c[i]) (fun _ (_ : Unit) _ => .inl ()) () (ex := fun (r : Empty) => nomatch r)
        (fun k _ st => (∃ B', st.H = .box [A, B] :: B') ∧ LiveT [(0, zImg c), (5, zImg a), (8, zImg b), (11, zImg m), (12, zExtss l), (14, zImg o), (18, zExtss nn1), (21, zExtss nn2), (23, zI i), (153, zI c.length), (154, zI i), (215, zI (c[i]).length), (216, zI k)] 0 st)
        (fun _ st => (∃ B', st.H = .box [A, B] :: B') ∧ LiveT [(0, zImg c), (5, zImg a), (8, zImg b), (11, zImg m), (12, zExtss l), (14, zImg o), (18, zExtss nn1), (21, zExtss nn2), (23, zI i), (153, zI c.length), (154, zI i)] 0 st) (fun r => nomatch r)
        (fun k _ st hk h => by
          obtain ⟨⟨B', hH⟩, h⟩ := h
          obtain ⟨tm, H, b⟩ := st
          simp only [bodyOf, Go.Proofs.Try.f17, Option.getD_some, loopsOf, rangesOf, List.nil_append, List.append_nil, List.cons_append, List.getElem?_cons_zero, List.getElem?_cons_succ]
          simp only [go_sem] at h
          obtain ⟨g0, g5, g8, g11, g12, g14, g18, g21, g23, g153, g154, g215, g216, rfl⟩ := h
          simp only at hH
          subst hH
          have ka : k < a[i].length := by omega
          have kb : k < b[i].length := by omega
          have km : k < m[i].length := by omega
          have ko : k < o[i].length := by omega
          have h81 := f81_spec l[i] 82 [.bp 1 0] (fun x => decide (x.s ≤ k ∧ (k : Int) - x.s < x.n)) [.box [A, B], .box [zI k]] cbi Y (fun x hx => f82_spec k x _ 1 rfl (by omega) (hxi x hx) Y)
          have ea : secAt a i k = some a[i][k] := by simp [secAt, ia, ka]
          have eb : secAt b i k = some b[i][k] := by simp [secAt, ib, kb]
          have ec : secAt c i k = some c[i][k] := by simp [secAt, hi, hk]
          have em := hm i k _ _ _ ea eb ec
          have eo := ho i k _ _ _ ea eb ec
          have el := hc i k _ _ _ ea eb ec
          simp only [secAt, List.getElem?_eq_getElem im, List.getElem?_eq_getElem io, List.getElem?_eq_getElem il, Option.bind_some, List.getElem?_eq_getElem km, List.getElem?_eq_getElem ko, Option.map_some, Option.some.injEq] at em eo el
          rw [el] at h81
          simp only [go_sem] at h81
          by_cases c1 : a[i][k] = c[i][k]
          · by_cases c2 : b[i][k] = c[i][k]
            · have q0 : inConf a[i][k] b[i][k] c[i][k] = false := by simp [inConf, c1]
              have q1 : m[i][k] = c[i][k] := by rw [em]; simp [merge1, c1, c2]
              have q2 : o[i][k] = c[i][k] := by rw [eo]; simp [merge1, c1, c2]
              rw [q0] at h81
              simp [go_sem, g0, g5, g8, g11, g12, g14, g18, g21, g23, g153, g154, g215, g216, huA, huB, hi, ia, ib, im, io, il, hk, ka, kb, km, ko, h81, c1, c2, q1, q2, show k < 1000000000 by omega, show i < 1000000000 by omega]
            · have q0 : inConf a[i][k] b[i][k] c[i][k] = false := by simp [inConf, c1]
              have q1 : m[i][k] = b[i][k] := by rw [em]; simp [merge1, c1]
              have q2 : o[i][k] = b[i][k] := by rw [eo]; simp [merge1, c1, c2]
              rw [q0] at h81
              simp [go_sem, g0, g5, g8, g11, g12, g14, g18, g21, g23, g153, g154, g215, g216, huA, huB, hi, ia, ib, im, io, il, hk, ka, kb, km, ko, h81, c1, c2, q1, q2, show k < 1000000000 by omega, show i < 1000000000 by omega]
          · by_cases c2 : b[i][k] = c[i][k]
            · have q0 : inConf a[i][k] b[i][k] c[i][k] = false := by simp [inConf, c2]
              have q1 : m[i][k] = a[i][k] := by rw [em]; simp [merge1, c1]
              have q2 : o[i][k] = a[i][k] := by rw [eo]; simp [merge1, c2]
              rw [q0] at h81
              simp [go_sem, g0, g5, g8, g11, g12, g14, g18, g21, g23, g153, g154, g215, g216, huA, huB, hi, ia, ib, im, io, il, hk, ka, kb, km, ko, h81, c1, c2, q1, q2, show k < 1000000000 by omega, show i < 1000000000 by omega]
            · by_cases c3 : a[i][k] = b[i][k]
              · have q0 : inConf a[i][k] b[i][k] c[i][k] = false := by simp [inConf, c3]
                have q1 : m[i][k] = a[i][k] := by rw [em]; simp [merge1, c1]
                have q2 : o[i][k] = a[i][k] := by rw [eo]; simp [merge1, c2, c3]
                rw [q0] at h81
                simp [go_sem, g0, g5, g8, g11, g12, g14, g18, g21, g23, g153, g154, g215, g216, huA, huB, hi, ia, ib, im, io, il, hk, ka, kb, km, ko, h81, c1, c2, c3, q1, q2, show k < 1000000000 by omega, show i < 1000000000 by omega]
              · have q0 : inConf a[i][k] b[i][k] c[i][k] = true := by simp [inConf, c1, c2, c3]
                have q1 : m[i][k] = a[i][k] := by rw [em]; simp [merge1, c1]
                have q2 : o[i][k] = b[i][k] := by rw [eo]; simp [merge1, c2]
                rw [q0] at h81
                simp [go_sem, g0, g5, g8, g11, g12, g14, g18, g21, g23, g153, g154, g215, g216, huA, huB, hi, ia, ib, im, io, il, hk, ka, kb, km, ko, h81, c1, c2, c3, q1, q2, show k < 1000000000 by omega, show i < 1000000000 by omega])
        (fun _ st h => by
          obtain ⟨⟨B', hH⟩, h⟩ := h
          obtain ⟨tm, H, b⟩ := st
          simp only [bodyOf, Go.Proofs.Try.f17, Option.getD_some, loopsOf, rangesOf, List.nil_append, List.append_nil, List.cons_append, List.getElem?_cons_zero, List.getElem?_cons_succ]
          simp only [go_sem] at h
          obtain ⟨g0, g5, g8, g11, g12, g14, g18, g21, g23, g153, g154, g215, g216, rfl⟩ := h
          simp only at hH
          subst hH
          simp [go_sem, g0, g5, g8, g11, g12, g14, g18, g21, g23, g153, g154, g215, g216, huA, huB])
        (fun r => nomatch r)
      simp only [bodyOf, Go.Proofs.Try.f17, Option.getD_some, loopsOf, rangesOf, List.nil_append, List.append_nil, List.cons_append, List.getElem?_cons_zero, List.getElem?_cons_succ] at hS
      rw [foldE_fold (fun _ _ => ())] at hS
      simp [go_sem] at hS
      obtain ⟨tm, H, b⟩ := st
      simp only [bodyOf, Go.Proofs.Try.f17, Option.getD_some, loopsOf, rangesOf, List.nil_append, List.append_nil, List.cons_append, List.getElem?_cons_zero, List.getElem?_cons_succ]
      simp only [go_sem] at h
      obtain ⟨g0, g5, g8, g11, g12, g14, g18, g21, g153, g154, rfl⟩ := h
      simp only at hH
      subst hH
      simp [go_sem, g0, g5, g8, g11, g12, g14, g18, g21, g153, g154, huA, huB, hi, ia, ib, im, io, il, i1, i2, e1, e2, sai, sbi, smi, soi, lm, lo, ln1, ln2, hS, show i < 1000000000 by omega])
    (fun _ st h => by
      obtain ⟨⟨B', hH⟩, h⟩ := h
      obtain ⟨tm, H, b⟩ := st
      simp only [bodyOf, Go.Proofs.Try.f17, Option.getD_some, loopsOf, rangesOf, List.nil_append, List.append_nil, List.cons_append, List.getElem?_cons_zero, List.getElem?_cons_succ]
      simp only [go_sem] at h
      obtain ⟨g0, g5, g8, g11, g12, g14, g18, g21, g153, g154, rfl⟩ := h
      simp only at hH
      subst hH
      simp [go_sem, g0, g5, g8, g11, g12, g14, g18, g21, g153, g154, huA, huB])
    (fun r => nomatch r)
  simp only [bodyOf, Go.Proofs.Try.f17, Option.getD_some, loopsOf, rangesOf, List.nil_append, List.append_nil, List.cons_append, List.getElem?_cons_zero, List.getElem?_cons_succ] at hR
  rw [foldE_fold (fun _ _ => ())] at hR
  simp only [bodyOf, Go.Proofs.Try.f17, Option.getD_some, loopsOf, rangesOf, List.nil_append, List.append_nil, List.cons_append, List.getElem?_cons_zero, List.getElem?_cons_succ]
  refine ⟨R, fun st h => ?_⟩
  simp only [go_sem] at h
  obtain ⟨g0, g5, g8, g11, g12, g14, g18, g21, g153, g154, hH, hb⟩ := h
  have := hR st ⟨⟨[], hH⟩, by simp only [go_sem]; exact ⟨g0, g5, g8, g11, g12, g14, g18, g21, g153, g154, hb⟩⟩
  exact this
end Go.Proofs.Ytlphdiccffnckaa

