/- Texts put together: Iof, Iog. -/
import Derived.Test.YtlphdiccffnckaaPan

/- Layer 54: the extents of marks; Conflicts of the reference. -/
namespace Go.Proofs.Ytlphdiccffnckaa
open Go Go.Abs

@[go_sem] def zBools (l : List Bool) : AV := .sl false 1 (l.map fun m => [.sc (.bool m)])
def markF (i : Nat) (out : List Ext) (m : Bool) : List Ext ⊕ Empty := .inl (if m = true then extStep i out else out)
def mList (ms : List Bool) : List Ext := match foldE markF 0 [] ms with
  | .inl s => s
theorem mList_fold (ms : List Bool) : foldE markF 0 [] ms = .inl (mList ms) := by
  unfold mList
  cases foldE markF 0 [] ms with
  | inl s => rfl
  | inr r => exact nomatch r

theorem f166_spec (ms : List Bool) (hl : ms.length < 100000000) (Y : List YF) : callS ev fs 166 [zBools ms] [] Y = some (.ret (zExts (mList ms)), []) := by
  refine callS_by f166_eq rfl ?_
  simp only [bodyOf, Go.Proofs.Try.f166, Option.getD_some]
  obtain ⟨R, hR⟩ := fold_loop (E := ev) (C := callS ev fs) (Y := Y) (w := w166) (a := (loopsOf (bodyOf Go.Proofs.Try.f166))[0]?.getD .skip) (b := 0) 
    ms markF ([] : List Ext) (ex := fun (r : Empty) => nomatch r)
    (fun i out st => (okOut i out ∧ out.length ≤ i ∧ (i = 0 → out = []) ∧ (∀ h : i - 1 < ms.length, 0 < i → if ms[i - 1] = true then endOf out = i else okOut (i - 1) out)) ∧ Live [(0, zBools ms), (3, .os 0 0 out.length out.length), (4, zI i)] [.own out.length 2 (extRows out)] 0 st)
    (fun out => Live [(3, .os 0 0 out.length out.length)] [.own out.length 2 (extRows out)] 0) (fun r => nomatch r)
    (fun i out st hi h => by
      obtain ⟨⟨ho, hol, hz, hm⟩, h⟩ := h
      obtain ⟨tm, H, b⟩ := st
      simp only [bodyOf, Go.Proofs.Try.f166, Option.getD_some, loopsOf, rangesOf, List.nil_append, List.append_nil, List.cons_append, List.getElem?_cons_zero, List.getElem?_cons_succ]
      simp only [go_sem] at h
      obtain ⟨h0, h3, h4, rfl, rfl⟩ := h
      cases hmi : ms[i] with
      | false =>
        have hmo := ho.mono
        simp [go_sem, h0, h3, h4, hi, hmi, markF, hmo, ho, show out.length ≤ i + 1 by omega, show i < 1000000000 by omega]
      | true =>
      have hst := ho.step
      have hse := extStep_end (i := i) (out := out)
      have hr : room (out.length + 1) 16 = true := room_ok (by omega) (by omega) (by omega)
      by_cases h00 : i = 0
      · subst h00
        obtain rfl := hz rfl
        simp [extStep] at hst hse
        simp [go_sem, h0, h3, h4, hi, hmi, markF, hst, extStep, extRows, room1, hse, show IntKind.wrap .i64 1 = 1 by decide]
      · obtain ⟨k, hki⟩ : ∃ k, i - 1 = k := ⟨i - 1, rfl⟩
        simp only [hki] at hm
        have hk : k < ms.length := by omega
        have hm := hm hk (by omega)
        have hk2 : (i : Int) - 1 = k := by omega
        cases hmk : ms[k] with
        | true =>
          simp only [hmk, if_true] at hm
          rcases List.eq_nil_or_concat out with rfl | ⟨init, x, rfl⟩
          · simp [endOf] at hm <;> omega
          simp only [List.concat_eq_append, List.length_append, List.length_singleton] at ho hol hr hst hse hm h3 ⊢
          have hx := ho x (by simp)
          have hxi : x.s + x.n = i := by simpa [endOf] using hm
          have hil : init.length < 1000000000 := by omega
          have he1 : extStep i (init ++ [x]) = init ++ [⟨x.s, x.n + 1⟩] := by simp [extStep, hxi]
          have hw := wrap64 (x := x.n + 1) (by omega)
          rw [he1] at hst hse
          simp [go_sem, h0, h3, h4, hi, hmi, hk2, hk, hmk, markF, hst, he1, hw, hil, hse, extRows, show 0 < i by omega, show init.length ≤ i by omega, show i < 1000000000 by omega, show k < 1000000000 by omega]
        | false =>
          simp only [hmk, Bool.false_eq_true, if_false] at hm
          have he1 : extStep i out = out ++ [⟨i, 1⟩] := by
            unfold extStep
            cases hg : out.getLast? with
            | none => rw [List.getLast?_eq_none_iff.1 hg]; rfl
            | some x =>
              have := hm x (List.mem_of_getLast? hg)
              dsimp only
              rw [if_neg (by omega)]
          rw [he1] at hst hse
          simp [go_sem, h0, h3, h4, hi, hmi, hk2, hk, hmk, markF, hst, he1, hr, hse, extRows, show 0 < i by omega, show out.length ≤ i by omega, show i < 1000000000 by omega, show k < 1000000000 by omega])
    (fun out st h => by
      obtain ⟨_, h⟩ := h
      obtain ⟨tm, H, b⟩ := st
      simp only [bodyOf, Go.Proofs.Try.f166, Option.getD_some, loopsOf, rangesOf, List.nil_append, List.append_nil, List.cons_append, List.getElem?_cons_zero, List.getElem?_cons_succ]
      simp only [go_sem] at h
      obtain ⟨h0, h3, h4, rfl, rfl⟩ := h
      simp [go_sem, h0, h3, h4])
    (fun r => nomatch r)
  simp only [bodyOf, Go.Proofs.Try.f166, Option.getD_some, loopsOf, rangesOf, List.nil_append, List.append_nil, List.cons_append, List.getElem?_cons_zero, List.getElem?_cons_succ] at hR
  rw [mList_fold] at hR
  generalize mList ms = out at *
  simp [go_sem, extRows, okOut] at hR
  simp [go_sem, freeze_os, hR]

theorem mList_len (ms : List Bool) : (mList ms).length ≤ ms.length := by
  have key : ∀ (l : List Bool) (i : Nat) (out out' : List Ext), foldE markF i out l = .inl out' → out'.length ≤ out.length + l.length := by
    intro l
    induction l with
    | nil => intro i out out' h; simp only [foldE, Sum.inl.injEq] at h; subst h; simp
    | cons m l ih =>
      intro i out out' h
      simp only [foldE, markF] at h
      have := ih _ _ _ h
      have hs : (extStep i out).length ≤ out.length + 1 := by
        unfold extStep
        split
        · split
          · simp <;> omega
          · simp
        · simp
      simp only [List.length_cons]
      split at this <;> omega
  have := key ms 0 [] _ (mList_fold ms)
  simpa using this

/-- Extents of marks are those at which images of the marks differ from the blank one. -/
def marks (a b c : Vol) : List Bool := List.zipWith (fun z p => inConf p.1 p.2 z) c (a.zip b)
theorem mark_blank (x y z : Sec) : (mark x y z = blank x y z) ↔ inConf x y z = false := by
  unfold mark blank
  cases h : inConf x y z
  · simp
  · simp only [if_true, Bool.true_eq_false, iff_false]
    decide
theorem ext_marks (a b c : Vol) (h1 : a.length = c.length) (h2 : b.length = c.length) : mExt (pick3 mark a b c) (pick3 blank a b c) = mList (marks a b c) := by
  have key : ∀ (n i : Nat) (out : List Ext), i + n = c.length → foldE (ρ := Empty) (diffF extStep (pick3 blank a b c)) i out ((pick3 mark a b c).drop i) = foldE markF i out ((marks a b c).drop i) := by
    intro n
    induction n with
    | zero =>
      intro i out h
      rw [List.drop_of_length_le (by rw [pick3_len h1 h2]; omega), List.drop_of_length_le (by simp [marks, List.length_zip, h1, h2]; omega)]
      rfl
    | succ n ih =>
      intro i out h
      have l1 := pick3_len (q := mark) h1 h2
      have l2 := pick3_len (q := blank) h1 h2
      have l3 : (marks a b c).length = c.length := by simp [marks, List.length_zip, h1, h2]
      rw [List.drop_eq_getElem_cons (show i < (pick3 mark a b c).length by omega), List.drop_eq_getElem_cons (show i < (marks a b c).length by omega)]
      simp only [foldE]
      have e1 : (pick3 mark a b c)[i]'(by omega) = mark (a[i]'(by omega)) (b[i]'(by omega)) (c[i]'(by omega)) := by simp [pick3]
      have e2 : (pick3 blank a b c)[i]'(by omega) = blank (a[i]'(by omega)) (b[i]'(by omega)) (c[i]'(by omega)) := by simp [pick3]
      have e3 : (marks a b c)[i]'(by omega) = inConf (a[i]'(by omega)) (b[i]'(by omega)) (c[i]'(by omega)) := by simp [marks]
      rw [e1, e3]
      simp only [diffF, markF, List.getElem?_eq_getElem (show i < (pick3 blank a b c).length by omega), e2, Option.some.injEq, mark_blank]
      cases hm : inConf (a[i]'(by omega)) (b[i]'(by omega)) (c[i]'(by omega))
      · simp only [if_true, Bool.false_eq_true, if_false]
        exact ih (i + 1) out (by omega)
      · simp only [Bool.true_eq_false, if_false, if_true]
        exact ih (i + 1) _ (by omega)
  have := key c.length 0 [] (by omega)
  simp only [List.drop_zero] at this
  unfold mExt mList
  rw [this]
  cases foldE markF 0 [] (marks a b c) with
  | inl s => rfl
  | inr r => exact nomatch r
end Go.Proofs.Ytlphdiccffnckaa

/- Layer 54: Conflicts of the reference. -/
namespace Go.Proofs.Ytlphdiccffnckaa
open Go Go.Abs

theorem foldE_fill {α β γ ρ : Type} (g : α → β → γ) (d : β) (ys : List β) : ∀ (xs : List α) (i : Nat) (t : List γ), xs.length + i = ys.length → t.length = ys.length →
    foldE (ρ := ρ) (fun i t x => .inl (t.set i (g x ((ys[i]?).getD d)))) i t xs = .inl (t.take i ++ List.zipWith g xs (ys.drop i))
  | [], i, t, h, ht => by simp at h; simp [foldE, List.drop_of_length_le (show ys.length ≤ i by omega), List.take_of_length_le (show t.length ≤ i by omega)]
  | x :: xs, i, t, h, ht => by
    simp only [List.length_cons] at h
    have hlt : i < ys.length := by omega
    simp only [foldE]
    rw [foldE_fill g d ys xs (i + 1) _ (by omega) (by simpa using ht), List.drop_eq_getElem_cons hlt, List.getElem?_eq_getElem hlt]
    simp only [Option.getD_some, List.zipWith_cons_cons]
    have h1 : (t.set i (g x ys[i])).take (i + 1) = t.take i ++ [g x ys[i]] := by
      rw [List.take_set, List.take_succ_eq_append_getElem (show i < t.length by omega), List.set_append_right _ _ (by simp; omega)]
      simp [show min i t.length = i by omega]
    rw [h1, List.append_assoc]
    rfl

theorem zip_at {α β : Type} {a : List α} {b : List β} {i : Nat} (h1 : i < a.length) (h2 : i < b.length) (d : α × β) : ((a.zip b)[i]?).getD d = (a[i], b[i]) := by
  rw [List.getElem?_eq_getElem (by simp [List.length_zip]; omega)]
  simp

theorem f73_spec (a b c : Img) (ha : a.length < 100000000) (hb : b.length < 100000000) (hc : c.length < 100000000) (Y : List YF) :
    callS ev fs 73 [zImg a, zImg b, zImg c] [] Y = some (.ret (.tup [zConf a b c, zI (mThree a b c)]), []) := by
  refine callS_by f73_eq rfl ?_
  simp only [bodyOf, Go.Proofs.Try.f73, Option.getD_some]
  have h165 := f165_spec a b c ha hb hc []
  by_cases h0 : ¬ mThree a b c = 0
  · simp only [go_sem] at h165
    simp [go_sem, h165, h0, zConf]
  replace h0 : mThree a b c = 0 := Decidable.not_not.1 h0
  obtain ⟨q1, q2, q3, s1, s2⟩ := alike_zero h0
  obtain ⟨r1, r2, r3⟩ := mCheck_zero q3
  have la := sizes_len s1
  have lb := sizes_len s2
  have hu2 : ∀ s : List (List Ext), AV.underLL 1 (s.map fun v => [AV.sl false 2 (v.map fun e => [.sc (.int .i64 e.s), .sc (.int .i64 e.n)])]) = true := underLL_maps (fun _ => rfl)
  obtain ⟨R, hR⟩ := fold_loop (E := ev) (C := callS ev fs) (Y := Y) (w := w73) (a := (loopsOf (bodyOf Go.Proofs.Try.f73))[0]?.getD .skip) (b := 0) 
    c (fun i s vc => .inl (s ++ [(fun vc p => mList (marks p.1 p.2 vc)) vc (((a.zip b)[i]?).getD ([], []))])) ([] : List (List Ext)) (ex := fun (r : Empty) => nomatch r)
    (fun i s st => (s.length = i ∧ ∃ B, st.H = .own i 1 (s.map fun v => [zExts v]) :: B) ∧ LiveT [(0, zImg a), (1, zImg b), (2, zImg c), (9, .os 0 0 i i), (10, zI i)] 0 st)
    (fun s => Live [(9, .os 0 0 c.length c.length)] [.own c.length 1 (s.map fun v => [zExts v])] 0) (fun r => nomatch r)
    (fun i s st hi h => by
      obtain ⟨⟨hs, B, hH⟩, h⟩ := h
      subst hs
      have hia : s.length < a.length := by omega
      have hib : s.length < b.length := by omega
      have sa := sizes_get s1 hia hi
      have sb := sizes_get s2 hib hi
      have hvi := (r3 _ (List.getElem_mem hi)).2
      have hzip := zip_at hia hib ([], [])
      rw [hzip]
      generalize hk : s.length = i at *
      obtain ⟨S, hS⟩ := fold_loop (E := ev) (C := callS ev fs) (Y := Y) (w := w73) (a := (loopsOf (bodyOf Go.Proofs.Try.f73))[1]?.getD .skip) (b := 2) 
        (c[i]) (fun k t z => .inl (t.set k ((fun z p => inConf p.1 p.2 z) z (((a[i].zip b[i])[k]?).getD (sZero, sZero))))) (List.replicate (c[i]).length false) (ex := fun (r : Empty) => nomatch r)
        (fun k t st => t.length = (c[i]).length ∧ Live [(0, zImg a), (1, zImg b), (2, zImg c), (9, .os 0 0 i i), (10, zI i), (11, .os 1 0 (c[i]).length 0), (12, zI k)] [.own i 1 (s.map fun v => [zExts v]), .own 0 1 (t.map fun m => [.sc (.bool m)])] 0 st)
        (fun t => Live [(0, zImg a), (1, zImg b), (2, zImg c), (9, .os 0 0 i i), (10, zI i), (11, .os 1 0 (c[i]).length 0)] [.own i 1 (s.map fun v => [zExts v]), .own 0 1 (t.map fun m => [.sc (.bool m)])] 0) (fun r => nomatch r)
        (fun k t st hj h => by
          obtain ⟨ht, h⟩ := h
          obtain ⟨tm, H, b⟩ := st
          simp only [bodyOf, Go.Proofs.Try.f73, Option.getD_some, loopsOf, rangesOf, List.nil_append, List.append_nil, List.cons_append, List.getElem?_cons_zero, List.getElem?_cons_succ]
          simp only [go_sem] at h
          obtain ⟨g0, g1, g2, g9, g10, g11, g12, rfl, rfl⟩ := h
          have hka : k < a[i].length := by omega
          have hkb : k < b[i].length := by omega
          rw [zip_at hka hkb]
          by_cases e1 : a[i][k] = c[i][k]
          · simp [go_sem, g0, g1, g2, g9, g10, g11, g12, hi, hia, hib, hj, hka, hkb, ht, e1, inConf, show i < 1000000000 by omega, show k < 1000000000 by omega]
          by_cases e2 : b[i][k] = c[i][k]
          · simp [go_sem, g0, g1, g2, g9, g10, g11, g12, hi, hia, hib, hj, hka, hkb, ht, e1, e2, inConf, show i < 1000000000 by omega, show k < 1000000000 by omega]
          by_cases e3 : a[i][k] = b[i][k]
          · simp [go_sem, g0, g1, g2, g9, g10, g11, g12, hi, hia, hib, hj, hka, hkb, ht, e1, e2, e3, inConf, show i < 1000000000 by omega, show k < 1000000000 by omega]
          simp [go_sem, g0, g1, g2, g9, g10, g11, g12, hi, hia, hib, hj, hka, hkb, ht, e1, e2, e3, inConf, show i < 1000000000 by omega, show k < 1000000000 by omega])
        (fun t st h => by
          obtain ⟨ht, h⟩ := h
          obtain ⟨tm, H, b⟩ := st
          simp only [bodyOf, Go.Proofs.Try.f73, Option.getD_some, loopsOf, rangesOf, List.nil_append, List.append_nil, List.cons_append, List.getElem?_cons_zero, List.getElem?_cons_succ]
          simp only [go_sem] at h
          obtain ⟨g0, g1, g2, g9, g10, g11, g12, rfl, rfl⟩ := h
          simp [go_sem, g0, g1, g2, g9, g10, g11, g12, ht])
        (fun r => nomatch r)
      simp only [bodyOf, Go.Proofs.Try.f73, Option.getD_some, loopsOf, rangesOf, List.nil_append, List.append_nil, List.cons_append, List.getElem?_cons_zero, List.getElem?_cons_succ] at hS
      have hfz : foldE (ρ := Empty) (fun k (t : List Bool) z => .inl (t.set k ((fun z p => inConf p.1 p.2 z) z (((a[i].zip b[i])[k]?).getD (sZero, sZero))))) 0 (List.replicate (c[i]).length false) c[i] = .inl (marks a[i] b[i] c[i]) := by
        rw [foldE_fill (ρ := Empty) (fun z p => inConf p.1 p.2 z) (sZero, sZero) (a[i].zip b[i]) c[i] 0 _ (by simp [List.length_zip]; omega) (by simp [List.length_zip]; omega)]
        rfl
      have hml : (marks a[i] b[i] c[i]).length = c[i].length := by simp [marks, List.length_zip, sa, sb]
      have h166 := f166_spec (marks a[i] b[i] c[i]) (by omega) []
      simp only at hfz
      rw [hfz] at hS
      have hll := mList_len (marks a[i] b[i] c[i])
      generalize hpk : marks a[i] b[i] c[i] = pk at *
      generalize hes : mList pk = es at *
      simp only [go_sem] at h166
      have htk : (pk.map fun m => [AV.sc (.bool m)]).take c[i].length = pk.map fun m => [AV.sc (.bool m)] := by rw [← hml]; exact take_map_len _ _
      have htk3 : (s.map fun v => [AV.sl false 2 (v.map fun e => [.sc (.int .i64 e.s), .sc (.int .i64 e.n)])]).take i = s.map fun v => [AV.sl false 2 (v.map fun e => [.sc (.int .i64 e.s), .sc (.int .i64 e.n)])] := by rw [← hk]; exact take_map_len _ _
      have hpp : AV.pureLL (pk.map fun m => [AV.sc (.bool m)]) = true := pureLL_map (fun _ => rfl) _
      simp [go_sem] at hS
      obtain ⟨tm, HH, bb⟩ := st
      simp only [bodyOf, Go.Proofs.Try.f73, Option.getD_some, loopsOf, rangesOf, List.nil_append, List.append_nil, List.cons_append, List.getElem?_cons_zero, List.getElem?_cons_succ]
      simp only [go_sem] at h
      simp only at hH
      subst hH
      obtain ⟨g0, g1, g2, g9, g10, rfl⟩ := h
      have hr : room (i + 1) 24 = true := room_ok (by omega) (by omega) (by omega)
      have hr2 : room c[i].length 1 = true := room_ok (by omega) (by omega) (by omega)
      simp [go_sem, g0, g1, g2, g9, g10, hi, hu2, hS, hr, hr2, hk, htk, htk3, hpp, hml, hpk, hes, h166, show i < 1000000000 by omega, show c[i].length ≤ 1099511627776 by omega])
    (fun s st h => by
      obtain ⟨⟨hs, B, hH⟩, h⟩ := h
      obtain ⟨tm, HH, bb⟩ := st
      simp only [bodyOf, Go.Proofs.Try.f73, Option.getD_some, loopsOf, rangesOf, List.nil_append, List.append_nil, List.cons_append, List.getElem?_cons_zero, List.getElem?_cons_succ]
      simp only [go_sem] at h
      simp only at hH
      subst hH
      obtain ⟨g0, g1, g2, g9, g10, rfl⟩ := h
      simp [go_sem, g0, g1, g2, g9, g10, hu2])
    (fun r => nomatch r)
  simp only [bodyOf, Go.Proofs.Try.f73, Option.getD_some, loopsOf, rangesOf, List.nil_append, List.append_nil, List.cons_append, List.getElem?_cons_zero, List.getElem?_cons_succ] at hR
  have hcf : List.zipWith (fun vc p => mList (marks p.1 p.2 vc)) c (a.zip b) = conf a b c := by
    refine List.ext_getElem (by simp [conf, choose, List.length_zip]) fun i p1 p2 => ?_
    simp only [List.length_zipWith, List.length_zip] at p1
    simp only [conf, choose, List.getElem_zipWith, List.getElem_zip]
    exact (ext_marks _ _ _ (sizes_get s1 (by omega) (by omega)) (sizes_get s2 (by omega) (by omega))).symm
  have hfz : foldE (ρ := Empty) (fun i s vc => .inl (s ++ [(fun vc p => mList (marks p.1 p.2 vc)) vc (((a.zip b)[i]?).getD ([], []))])) 0 [] c = .inl (conf a b c) := by
    rw [foldE_zip (ρ := Empty) (fun vc p => mList (marks p.1 p.2 vc)) ([], []) (a.zip b) c 0 [] (by simp [List.length_zip]; omega), ← hcf]
    rfl
  have hcl : (conf a b c).length = c.length := by rw [← hcf]; simp [List.length_zip]; omega
  simp only at hfz
  rw [hfz] at hR
  simp only [zConf, h0, if_true]
  generalize conf a b c = ch at *
  have htk : (ch.map fun v => [AV.sl false 2 (v.map fun e => [.sc (.int .i64 e.s), .sc (.int .i64 e.n)])]).take c.length = ch.map fun v => [AV.sl false 2 (v.map fun e => [.sc (.int .i64 e.s), .sc (.int .i64 e.n)])] := by rw [← hcl]; exact take_map_len _ _
  simp only [go_sem, h0] at h165
  simp [go_sem] at hR
  simp [go_sem, h165, freeze_os, hcl, htk, hR]
end Go.Proofs.Ytlphdiccffnckaa

