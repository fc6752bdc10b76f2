/- Texts put together: Imj, Imk. -/
import Derived.Test.YtlphdiccffnckaaPak

/- Layer 7: Differ. -/
namespace Go.Proofs.Ytlphdiccffnckaa
open Go Go.Abs

theorem f105_spec (va vb : Vol) (hab : va.length = vb.length) (hl : va.length < 100000000) (Y : List YF) : callS ev fs 105 [zVol va, zVol vb] [] Y = some (.ret (zExts (mExt va vb)), []) := by
  refine callS_by f105_eq rfl ?_
  simp only [bodyOf, Go.Proofs.Try.f105, Option.getD_some]
  obtain ⟨R, hR⟩ := fold_loop (E := ev) (C := callS ev fs) (Y := Y) (w := w105) (a := (loopsOf (bodyOf Go.Proofs.Try.f105))[0]?.getD .skip) (b := 0) 
    va (diffF extStep vb) ([] : List Ext) (ex := fun (r : Empty) => nomatch r)
    (fun i out st => (okOut i out ∧ out.length ≤ i) ∧ Live [(0, zVol va), (1, zVol vb), (5, .os 0 0 out.length out.length), (6, zI i)] [.own out.length 2 (extRows out)] 0 st)
    (fun out => Live [(5, .os 0 0 out.length out.length)] [.own out.length 2 (extRows out)] 0) (fun r => nomatch r)
    (fun i out st hi h => by
      obtain ⟨⟨ho, hol⟩, h⟩ := h
      obtain ⟨tm, H, b⟩ := st
      simp only [bodyOf, Go.Proofs.Try.f105, Option.getD_some, loopsOf, rangesOf, List.nil_append, List.append_nil, List.cons_append, List.getElem?_cons_zero, List.getElem?_cons_succ]
      simp only [go_sem] at h
      obtain ⟨h0, h1, h5, h6, rfl, rfl⟩ := h
      have hib : i < vb.length := by omega
      by_cases he : va[i] = vb[i]
      · have hm := ho.mono
        simp [go_sem, h0, h1, h5, h6, hi, hib, he, diffF, hm, show out.length ≤ i + 1 by omega, show i < 1000000000 by omega]
      have hst := ho.step
      have hr : room (out.length + 1) 16 = true := room_ok (by omega) (by omega) (by omega)
      rcases List.eq_nil_or_concat out with rfl | ⟨init, x, rfl⟩
      · simp [extStep] at hst
        simp [go_sem, h0, h1, h5, h6, hi, hib, he, diffF, hst, extStep, extRows, room1, show i < 1000000000 by omega]
      · simp only [List.concat_eq_append, List.length_append, List.length_singleton] at ho hol hr hst h5 ⊢
        have hx := ho x (by simp)
        have hil : init.length < 1000000000 := by omega
        by_cases hxi : x.s + x.n = i
        · have he1 : extStep i (init ++ [x]) = init ++ [⟨x.s, x.n + 1⟩] := by simp [extStep, hxi]
          have hw := wrap64 (x := x.n + 1) (by omega)
          rw [he1] at hst
          simp [go_sem, h0, h1, h5, h6, hi, hib, he, diffF, hst, he1, hxi, hw, hil, extRows, show init.length ≤ i by omega, show i < 1000000000 by omega]
        · have he1 : extStep i (init ++ [x]) = init ++ [x] ++ [⟨i, 1⟩] := by simp [extStep, hxi]
          have hw := wrap64 (x := x.s + x.n) (by omega)
          rw [he1] at hst
          simp [go_sem, h0, h1, h5, h6, hi, hib, he, diffF, hst, he1, hxi, hw, hil, hr, extRows, show init.length ≤ i by omega, show i < 1000000000 by omega]
          refine ⟨⟨by simpa using hst, by omega⟩, ?_⟩
          rw [List.take_of_length_le (by simp)]
          simp)
    (fun out st h => by
      obtain ⟨⟨ho, hol⟩, h⟩ := h
      obtain ⟨tm, H, b⟩ := st
      simp only [bodyOf, Go.Proofs.Try.f105, Option.getD_some, loopsOf, rangesOf, List.nil_append, List.append_nil, List.cons_append, List.getElem?_cons_zero, List.getElem?_cons_succ]
      simp only [go_sem] at h
      obtain ⟨h0, h1, h5, h6, rfl, rfl⟩ := h
      simp [go_sem, h0, h1, h5, h6])
    (fun r => nomatch r)
  simp only [bodyOf, Go.Proofs.Try.f105, Option.getD_some, loopsOf, rangesOf, List.nil_append, List.append_nil, List.cons_append, List.getElem?_cons_zero, List.getElem?_cons_succ] at hR
  obtain ⟨out, hout⟩ : ∃ out, foldE (ρ := Empty) (diffF extStep vb) 0 [] va = .inl out := by
    cases h : foldE (ρ := Empty) (diffF extStep vb) 0 [] va with
    | inl s => exact ⟨s, rfl⟩
    | inr r => exact nomatch r
  have hm : mExt va vb = out := by unfold mExt; rw [hout]
  rw [hout] at hR
  rw [hm]
  simp [go_sem, extRows, okOut] at hR
  simp [go_sem, freeze_os, hR]

theorem f50_spec (a b : List Int) (hl : a.length < 1000000000) (Y : List YF) : callS ev fs 50 [zInts a, zInts b] [] Y = some (.ret (zB (decide (a = b))), []) := by
  refine callS_by f50_eq rfl ?_
  simp only [bodyOf, Go.Proofs.Try.f50, Option.getD_some]
  by_cases h1 : a.length ≠ b.length
  · have hm : ¬ a = b := fun h => h1 (by rw [h])
    simp [go_sem, h1, hm, Int.ofNat_inj]
  replace h1 : a.length = b.length := by omega
  obtain ⟨R, hR⟩ := fold_loop (E := ev) (C := callS ev fs) (Y := Y) (w := {}) (a := (loopsOf (bodyOf Go.Proofs.Try.f50))[0]?.getD .skip) (b := 0) 
    a (fun i (_ : Unit) x => if some x = b[i]? then .inl () else .inr ()) () (ex := fun _ => .ret)
    (fun i _ => Live [(0, zInts a), (1, zInts b), (12, zI a.length), (13, zI i)] [] 0) (fun _ => Live [] [] 0) (fun _ => Live [(4, zB false)] [] 0)
    (fun i s st hi h => by
      obtain ⟨tm, H, b⟩ := st
      simp only [bodyOf, Go.Proofs.Try.f50, Option.getD_some, loopsOf, rangesOf, List.nil_append, List.append_nil, List.cons_append, List.getElem?_cons_zero, List.getElem?_cons_succ]
      simp only [go_sem] at h
      obtain ⟨h0, h1', h12, h13, rfl, rfl⟩ := h
      have hib : i < b.length := by omega
      by_cases hp : a[i] = b[i] <;> simp [go_sem, h0, h1', h12, h13, hi, hib, hp, show i < 1000000000 by omega])
    (fun s st h => by
      obtain ⟨tm, H, b⟩ := st
      simp only [bodyOf, Go.Proofs.Try.f50, Option.getD_some, loopsOf, rangesOf, List.nil_append, List.append_nil, List.cons_append, List.getElem?_cons_zero, List.getElem?_cons_succ]
      simp only [go_sem] at h
      obtain ⟨h0, h1', h12, h13, rfl, rfl⟩ := h
      simp [go_sem, h12, h13])
    (fun _ h => by cases h)
  simp only [bodyOf, Go.Proofs.Try.f50, Option.getD_some, loopsOf, rangesOf, List.nil_append, List.append_nil, List.cons_append, List.getElem?_cons_zero, List.getElem?_cons_succ] at hR
  rw [foldE_eq b a 0 (by omega), List.drop_zero] at hR
  by_cases hab : a = b
  · simp [go_sem, hab] at hR
    simp [go_sem, hab, hR]
  · simp [go_sem, hab] at hR
    simp [go_sem, hab, h1, hR]

/-- What two images that are compared are told. -/
def mPair (a b : Img) : Int := if mCheck a = 0 then if mCheck b = 0 then if a.map List.length = b.map List.length then 0 else 22 else mCheck b else mCheck a

theorem f99_spec (a b : Img) (ha : a.length < 100000000) (hb : b.length < 100000000) (Y : List YF) : callS ev fs 99 [zImg a, zImg b] [] Y = some (.ret (zI (mPair a b)), []) := by
  refine callS_by f99_eq rfl ?_
  simp only [bodyOf, Go.Proofs.Try.f99, Option.getD_some]
  have h26 : ∀ x ∈ [a, b], callS ev fs 26 [zImg x] [] [] = some (.ret (zI (mCheck x)), []) := fun x hx => f26_spec x (by
    simp at hx
    rcases hx with rfl | rfl <;> assumption) []
  obtain ⟨R, hR⟩ := fold_loop (E := ev) (C := callS ev fs) (Y := Y) (w := {}) (a := (loopsOf (bodyOf Go.Proofs.Try.f99))[0]?.getD .skip) (b := 0) 
    [a, b] (fun _ (_ : Unit) x => if mCheck x = 0 then .inl () else .inr (mCheck x)) () (ex := fun _ => .ret)
    (fun i _ => Live [(0, zImg a), (1, zImg b), (10, .sl false 1 ([a, b].map fun x => [zImg x])), (11, zI 2), (12, zI i)] [] 0) (fun _ => Live [(0, zImg a), (1, zImg b)] [] 0) (fun e => Live [(4, zI e)] [] 0)
    (fun i s st hi h => by
      obtain ⟨tm, H, b⟩ := st
      simp only [bodyOf, Go.Proofs.Try.f99, Option.getD_some, loopsOf, rangesOf, List.nil_append, List.append_nil, List.cons_append, List.getElem?_cons_zero, List.getElem?_cons_succ]
      simp only [go_sem] at h
      obtain ⟨h0, h1, h10, h11, h12, rfl, rfl⟩ := h
      have hc := h26 [a, b][i] (List.getElem_mem hi)
      have hi2 : i < 2 := by simpa using hi
      have hget : ([a, b].map fun x => [zImg x])[i]? = some [zImg [a, b][i]] := by
        rw [List.getElem?_map, List.getElem?_eq_getElem hi]; rfl
      generalize [a, b][i] = x at hc hget ⊢
      simp only [go_sem] at hc hget h10
      generalize hrows : (List.map _ [a, b]) = rows at hget h10 ⊢
      by_cases h0' : mCheck x = 0
      · simp [go_sem, h0, h1, h10, h11, h12, hget, hc, h0', hi2, show i < 1000000000 by omega]
        rw [← hrows]
        rfl
      · simp [go_sem, h0, h1, h10, h11, h12, hget, hc, h0', hi2])
    (fun s st h => by
      obtain ⟨tm, H, b⟩ := st
      simp only [bodyOf, Go.Proofs.Try.f99, Option.getD_some, loopsOf, rangesOf, List.nil_append, List.append_nil, List.cons_append, List.getElem?_cons_zero, List.getElem?_cons_succ]
      simp only [go_sem] at h
      obtain ⟨h0, h1, h10, h11, h12, rfl, rfl⟩ := h
      simp [go_sem, h0, h1, h11, h12])
    (fun _ h => by cases h)
  simp only [bodyOf, Go.Proofs.Try.f99, Option.getD_some, loopsOf, rangesOf, List.nil_append, List.append_nil, List.cons_append, List.getElem?_cons_zero, List.getElem?_cons_succ] at hR
  have h93a := f93_spec a ha []
  have h93b := f93_spec b hb []
  have h50 := f50_spec (a.map fun v => (v.length : Int)) (b.map fun v => (v.length : Int)) (by simp; omega) []
  have hse : (a.map fun v => (v.length : Int)) = (b.map fun v => (v.length : Int)) ↔ a.map List.length = b.map List.length := by
    have key : ∀ (l m : List Nat), l.map (fun n : Nat => (n : Int)) = m.map (fun n : Nat => (n : Int)) ↔ l = m := fun l m => List.map_inj_right (fun _ _ h => Int.ofNat_inj.1 h)
    rw [← key, List.map_map, List.map_map]
    rfl
  simp only [go_sem, hse, List.map_map] at h93a h93b h50
  simp only [foldE] at hR
  by_cases h0 : ¬ mCheck a = 0
  · simp [go_sem, h0] at hR
    simp [go_sem, slLit, Go.Abs.chunks, hR, mPair, h0]
  replace h0 : mCheck a = 0 := Decidable.not_not.1 h0
  by_cases h1 : ¬ mCheck b = 0
  · simp [go_sem, h0, h1] at hR
    simp [go_sem, slLit, Go.Abs.chunks, hR, mPair, h0, h1]
  replace h1 : mCheck b = 0 := Decidable.not_not.1 h1
  simp [go_sem, h0, h1] at hR
  by_cases hs : a.map List.length = b.map List.length
  · simp only [hs, decide_true] at h50
    simp [go_sem, slLit, Go.Abs.chunks, hR, mPair, h0, h1, hs, h93a, h93b, h50]
  · simp only [hs, decide_false] at h50
    simp [go_sem, slLit, Go.Abs.chunks, hR, mPair, h0, h1, hs, h93a, h93b, h50]

theorem f104_spec (a b : Img) (ha : a.length < 100000000) (hb : b.length < 100000000) (Y : List YF) : callS ev fs 104 [zImg a, zImg b] [] Y = some (.ret (zI (mPair a b)), []) := by
  refine callS_by f104_eq rfl ?_
  simp only [bodyOf, Go.Proofs.Try.f104, Option.getD_some]
  have h27a := f27_spec a ha []
  have h27b := f27_spec b hb []
  simp only [go_sem] at h27a h27b
  by_cases h0 : ¬ mCheck a = 0
  · simp [go_sem, h27a, mPair, h0]
  replace h0 : mCheck a = 0 := Decidable.not_not.1 h0
  by_cases h1 : ¬ mCheck b = 0
  · simp [go_sem, h27a, h27b, mPair, h0, h1]
  replace h1 : mCheck b = 0 := Decidable.not_not.1 h1
  by_cases hl : a.length ≠ b.length
  · have hs : ¬ a.map List.length = b.map List.length := fun h => hl (by simpa using congrArg List.length h)
    simp [go_sem, h27a, h27b, mPair, h0, h1, hs, hl, Int.ofNat_inj]
  replace hl : a.length = b.length := by omega
  obtain ⟨R, hR⟩ := fold_loop (E := ev) (C := callS ev fs) (Y := Y) (w := {}) (a := (loopsOf (bodyOf Go.Proofs.Try.f104))[0]?.getD .skip) (b := 0) 
    (a.map List.length) (fun i (_ : Unit) x => if some x = (b.map List.length)[i]? then .inl () else .inr ()) () (ex := fun _ => .ret)
    (fun i _ => Live [(0, zImg a), (1, zImg b), (7, zI i)] [] 0) (fun _ => Live [] [] 0) (fun _ => Live [(4, zI 22)] [] 0)
    (fun i s st hi h => by
      obtain ⟨tm, H, b⟩ := st
      simp only [bodyOf, Go.Proofs.Try.f104, Option.getD_some, loopsOf, rangesOf, List.nil_append, List.append_nil, List.cons_append, List.getElem?_cons_zero, List.getElem?_cons_succ]
      simp only [go_sem] at h
      obtain ⟨g0, g1, g7, rfl, rfl⟩ := h
      have hia : i < a.length := by simpa using hi
      have hib : i < b.length := by omega
      by_cases hp : a[i].length = b[i].length <;> simp [go_sem, g0, g1, g7, hia, hib, hp, Int.ofNat_inj, show i < 1000000000 by omega])
    (fun s st h => by
      obtain ⟨tm, H, b⟩ := st
      simp only [bodyOf, Go.Proofs.Try.f104, Option.getD_some, loopsOf, rangesOf, List.nil_append, List.append_nil, List.cons_append, List.getElem?_cons_zero, List.getElem?_cons_succ]
      simp only [go_sem] at h
      obtain ⟨g0, g1, g7, rfl, rfl⟩ := h
      simp [go_sem, g0, g1, g7])
    (fun _ h => by cases h)
  simp only [bodyOf, Go.Proofs.Try.f104, Option.getD_some, loopsOf, rangesOf, List.nil_append, List.append_nil, List.cons_append, List.getElem?_cons_zero, List.getElem?_cons_succ] at hR
  rw [foldE_eq (b.map List.length) (a.map List.length) 0 (by simpa using hl), List.drop_zero] at hR
  by_cases hs : a.map List.length = b.map List.length
  · simp [go_sem, hs] at hR
    simp [go_sem, h27a, h27b, mPair, h0, h1, hs, hl, hR]
  · simp [go_sem, hs] at hR
    simp [go_sem, h27a, h27b, mPair, h0, h1, hs, hl, hR]

@[go_sem] def zExtss (l : List (List Ext)) : AV := .sl false 1 (l.map fun x => [.sl false 2 (x.map fun e => [.sc (.int .i64 e.s), .sc (.int .i64 e.n)])])
def zDiffer (a b : Img) : AV := if mPair a b = 0 then .tup [zExtss (List.zipWith mExt a b), zI 0] else .tup [.sc (.slice none 0 0), zI (mPair a b)]
theorem mPair_zero {a b : Img} (h : mPair a b = 0) : mCheck a = 0 ∧ mCheck b = 0 ∧ a.map List.length = b.map List.length := by
  unfold mPair at h
  split at h
  · split at h
    · split at h
      · exact ⟨by assumption, by assumption, by assumption⟩
      · simp at h
    · contradiction
  · contradiction
theorem sizes_get {a b : Img} (h : a.map List.length = b.map List.length) {i : Nat} (ha : i < a.length) (hb : i < b.length) : a[i].length = b[i].length := by
  have := congrArg (·[i]?) h
  simpa [ha, hb] using this

theorem f34_spec (a b : Img) (ha : a.length < 100000000) (hb : b.length < 100000000) (Y : List YF) : callS ev fs 34 [zImg a, zImg b] [] Y = some (.ret (zDiffer a b), []) := by
  refine callS_by f34_eq rfl ?_
  simp only [bodyOf, Go.Proofs.Try.f34, Option.getD_some]
  have h99 := f99_spec a b ha hb []
  simp only [go_sem] at h99
  by_cases h0 : ¬ mPair a b = 0
  · simp [go_sem, h99, h0, zDiffer]
  replace h0 : mPair a b = 0 := Decidable.not_not.1 h0
  obtain ⟨q1, q2, q3⟩ := mPair_zero h0
  have hal := (mCheck_zero q1).2.2
  have hl := sizes_len q3
  obtain ⟨R, hR⟩ := fold_loop (E := ev) (C := callS ev fs) (Y := Y) (w := w34) (a := (loopsOf (bodyOf Go.Proofs.Try.f34))[0]?.getD .skip) (b := 0) 
    a (fun i s x => .inl (s ++ [mExt x ((b[i]?).getD [])])) ([] : List (List Ext)) (ex := fun (r : Empty) => nomatch r)
    (fun i s st => s.length = i ∧ Live [(0, zImg a), (1, zImg b), (7, .os 0 0 i i), (16, zI a.length), (17, zI i)] [.own i 1 (s.map fun x => [zExts x])] 0 st)
    (fun s => Live [(7, .os 0 0 a.length a.length)] [.own a.length 1 (s.map fun x => [zExts x])] 0) (fun r => nomatch r)
    (fun i s st hi h => by
      obtain ⟨rfl, h⟩ := h
      obtain ⟨tm, H, b⟩ := st
      simp only [bodyOf, Go.Proofs.Try.f34, Option.getD_some, loopsOf, rangesOf, List.nil_append, List.append_nil, List.cons_append, List.getElem?_cons_zero, List.getElem?_cons_succ]
      simp only [go_sem] at h
      obtain ⟨g0, g1, g7, g16, g17, rfl, rfl⟩ := h
      have hib : s.length < b.length := by omega
      have hr : room (s.length + 1) 24 = true := room_ok (by omega) (by omega) (by omega)
      have h100 := f100_spec a[s.length] b[s.length] (sizes_get q3 hi hib) (by have := (hal _ (List.getElem_mem hi)).2; omega) []
      simp only [go_sem] at h100
      simp [go_sem, g0, g1, g7, g16, g17, hi, hib, hr, h100, show s.length < 1000000000 by omega])
    (fun s st h => by
      obtain ⟨_, h⟩ := h
      obtain ⟨tm, H, b⟩ := st
      simp only [bodyOf, Go.Proofs.Try.f34, Option.getD_some, loopsOf, rangesOf, List.nil_append, List.append_nil, List.cons_append, List.getElem?_cons_zero, List.getElem?_cons_succ]
      simp only [go_sem] at h
      obtain ⟨g0, g1, g7, g16, g17, rfl, rfl⟩ := h
      simp [go_sem, g7, g16, g17])
    (fun r => nomatch r)
  simp only [bodyOf, Go.Proofs.Try.f34, Option.getD_some, loopsOf, rangesOf, List.nil_append, List.append_nil, List.cons_append, List.getElem?_cons_zero, List.getElem?_cons_succ] at hR
  rw [foldE_zip mExt [] b a 0 [] (by omega), List.drop_zero, List.nil_append] at hR
  have hzl : (List.zipWith mExt a b).length = a.length := by simp; omega
  have hz : zDiffer a b = .tup [zExtss (List.zipWith mExt a b), zI 0] := by unfold zDiffer; rw [if_pos h0]
  rw [hz]
  generalize List.zipWith mExt a b = Z at hR hzl ⊢
  have htk : (Z.map fun x => [AV.sl false 2 (x.map fun e => [AV.sc (.int .i64 e.s), AV.sc (.int .i64 e.n)])]).take a.length = Z.map fun x => [AV.sl false 2 (x.map fun e => [AV.sc (.int .i64 e.s), AV.sc (.int .i64 e.n)])] := List.take_of_length_le (by simp [hzl])
  simp [go_sem] at hR
  simp [go_sem, freeze_os, h99, h0, hR, hzl, htk]

theorem f39_spec (a b : Img) (ha : a.length < 100000000) (hb : b.length < 100000000) (Y : List YF) : callS ev fs 39 [zImg a, zImg b] [] Y = some (.ret (zDiffer a b), []) := by
  refine callS_by f39_eq rfl ?_
  simp only [bodyOf, Go.Proofs.Try.f39, Option.getD_some]
  have h104 := f104_spec a b ha hb []
  simp only [go_sem] at h104
  by_cases h0 : ¬ mPair a b = 0
  · simp [go_sem, h104, h0, zDiffer]
  replace h0 : mPair a b = 0 := Decidable.not_not.1 h0
  obtain ⟨q1, q2, q3⟩ := mPair_zero h0
  have hal := (mCheck_zero q1).2.2
  have hl := sizes_len q3
  obtain ⟨R, hR⟩ := fold_loop (E := ev) (C := callS ev fs) (Y := Y) (w := w39) (a := (loopsOf (bodyOf Go.Proofs.Try.f39))[0]?.getD .skip) (b := 0) 
    a (fun i s x => .inl (s ++ [mExt x ((b[i]?).getD [])])) ([] : List (List Ext)) (ex := fun (r : Empty) => nomatch r)
    (fun i s st => s.length = i ∧ Live [(0, zImg a), (1, zImg b), (7, .os 0 0 i i), (8, zI i)] [.own i 1 (s.map fun x => [zExts x])] 0 st)
    (fun s => Live [(7, .os 0 0 a.length a.length)] [.own a.length 1 (s.map fun x => [zExts x])] 0) (fun r => nomatch r)
    (fun i s st hi h => by
      obtain ⟨rfl, h⟩ := h
      obtain ⟨tm, H, b⟩ := st
      simp only [bodyOf, Go.Proofs.Try.f39, Option.getD_some, loopsOf, rangesOf, List.nil_append, List.append_nil, List.cons_append, List.getElem?_cons_zero, List.getElem?_cons_succ]
      simp only [go_sem] at h
      obtain ⟨g0, g1, g7, g8, rfl, rfl⟩ := h
      have hib : s.length < b.length := by omega
      have hr : room (s.length + 1) 24 = true := room_ok (by omega) (by omega) (by omega)
      have h105 := f105_spec a[s.length] b[s.length] (sizes_get q3 hi hib) (by have := (hal _ (List.getElem_mem hi)).2; omega) []
      simp only [go_sem] at h105
      simp [go_sem, g0, g1, g7, g8, hi, hib, hr, h105, show s.length < 1000000000 by omega])
    (fun s st h => by
      obtain ⟨_, h⟩ := h
      obtain ⟨tm, H, b⟩ := st
      simp only [bodyOf, Go.Proofs.Try.f39, Option.getD_some, loopsOf, rangesOf, List.nil_append, List.append_nil, List.cons_append, List.getElem?_cons_zero, List.getElem?_cons_succ]
      simp only [go_sem] at h
      obtain ⟨g0, g1, g7, g8, rfl, rfl⟩ := h
      simp [go_sem, g0, g7, g8])
    (fun r => nomatch r)
  simp only [bodyOf, Go.Proofs.Try.f39, Option.getD_some, loopsOf, rangesOf, List.nil_append, List.append_nil, List.cons_append, List.getElem?_cons_zero, List.getElem?_cons_succ] at hR
  rw [foldE_zip mExt [] b a 0 [] (by omega), List.drop_zero, List.nil_append] at hR
  have hzl : (List.zipWith mExt a b).length = a.length := by simp; omega
  have hz : zDiffer a b = .tup [zExtss (List.zipWith mExt a b), zI 0] := by unfold zDiffer; rw [if_pos h0]
  rw [hz]
  generalize List.zipWith mExt a b = Z at hR hzl ⊢
  have htk : (Z.map fun x => [AV.sl false 2 (x.map fun e => [AV.sc (.int .i64 e.s), AV.sc (.int .i64 e.n)])]).take a.length = Z.map fun x => [AV.sl false 2 (x.map fun e => [AV.sc (.int .i64 e.s), AV.sc (.int .i64 e.n)])] := List.take_of_length_le (by simp [hzl])
  simp [go_sem] at hR
  simp [go_sem, freeze_os, h104, h0, hR, hzl, htk]

theorem f87_spec (a b : List Ext) (hl : a.length < 1000000000) (Y : List YF) : callS ev fs 87 [zExts a, zExts b] [] Y = some (.ret (zB (decide (a = b))), []) := by
  refine callS_by f87_eq rfl ?_
  simp only [bodyOf, Go.Proofs.Try.f87, Option.getD_some]
  by_cases h1 : a.length ≠ b.length
  · have hm : ¬ a = b := fun h => h1 (by rw [h])
    simp [go_sem, h1, hm, Int.ofNat_inj]
  replace h1 : a.length = b.length := by omega
  obtain ⟨R, hR⟩ := fold_loop (E := ev) (C := callS ev fs) (Y := Y) (w := {}) (a := (loopsOf (bodyOf Go.Proofs.Try.f87))[0]?.getD .skip) (b := 0) 
    a (fun i (_ : Unit) x => if some x = b[i]? then .inl () else .inr ()) () (ex := fun _ => .ret)
    (fun i _ => Live [(0, zExts a), (1, zExts b), (12, zI a.length), (13, zI i)] [] 0) (fun _ => Live [] [] 0) (fun _ => Live [(4, zB false)] [] 0)
    (fun i s st hi h => by
      obtain ⟨tm, H, b⟩ := st
      simp only [bodyOf, Go.Proofs.Try.f87, Option.getD_some, loopsOf, rangesOf, List.nil_append, List.append_nil, List.cons_append, List.getElem?_cons_zero, List.getElem?_cons_succ]
      simp only [go_sem] at h
      obtain ⟨h0, h1', h12, h13, rfl, rfl⟩ := h
      have hib : i < b.length := by omega
      by_cases hp : a[i] = b[i] <;> simp [go_sem, h0, h1', h12, h13, hi, hib, hp, show i < 1000000000 by omega])
    (fun s st h => by
      obtain ⟨tm, H, b⟩ := st
      simp only [bodyOf, Go.Proofs.Try.f87, Option.getD_some, loopsOf, rangesOf, List.nil_append, List.append_nil, List.cons_append, List.getElem?_cons_zero, List.getElem?_cons_succ]
      simp only [go_sem] at h
      obtain ⟨h0, h1', h12, h13, rfl, rfl⟩ := h
      simp [go_sem, h12, h13])
    (fun _ h => by cases h)
  simp only [bodyOf, Go.Proofs.Try.f87, Option.getD_some, loopsOf, rangesOf, List.nil_append, List.append_nil, List.cons_append, List.getElem?_cons_zero, List.getElem?_cons_succ] at hR
  rw [foldE_eq b a 0 (by omega), List.drop_zero] at hR
  by_cases hab : a = b
  · simp [go_sem, hab] at hR
    simp [go_sem, hab, hR]
  · simp [go_sem, hab] at hR
    simp [go_sem, hab, h1, hR]

theorem f102_spec (a b : List Ext) (hl : a.length < 1000000000) (Y : List YF) : callS ev fs 102 [zExts a, zExts b] [] Y = some (.ret (zB (decide (a = b))), []) := by
  refine callS_by f102_eq rfl ?_
  simp only [bodyOf, Go.Proofs.Try.f102, Option.getD_some]
  have h := f87_spec a b hl []
  simp only [go_sem] at h
  simp [go_sem, h]

theorem f101_spec (a b : List (List Ext)) (hl : a.length < 1000000000) (hx : ∀ x ∈ a, x.length < 1000000000) (Y : List YF) : callS ev fs 101 [zExtss a, zExtss b, .fn 102 []] [] Y = some (.ret (zB (decide (a = b))), []) := by
  refine callS_by f101_eq rfl ?_
  simp only [bodyOf, Go.Proofs.Try.f101, Option.getD_some]
  by_cases h1 : a.length ≠ b.length
  · have hm : ¬ a = b := fun h => h1 (by rw [h])
    simp [go_sem, h1, hm, Int.ofNat_inj]
  replace h1 : a.length = b.length := by omega
  obtain ⟨R, hR⟩ := fold_loop (E := ev) (C := callS ev fs) (Y := Y) (w := {}) (a := (loopsOf (bodyOf Go.Proofs.Try.f101))[0]?.getD .skip) (b := 0) 
    a (fun i (_ : Unit) x => if some x = b[i]? then .inl () else .inr ()) () (ex := fun _ => .ret)
    (fun i _ => Live [(1, zExtss b), (2, .fn 102 []), (15, zExtss a), (16, zI a.length), (17, zI i)] [] 0) (fun _ => Live [] [] 0) (fun _ => Live [(6, zB false)] [] 0)
    (fun i s st hi h => by
      obtain ⟨tm, H, b⟩ := st
      simp only [bodyOf, Go.Proofs.Try.f101, Option.getD_some, loopsOf, rangesOf, List.nil_append, List.append_nil, List.cons_append, List.getElem?_cons_zero, List.getElem?_cons_succ]
      simp only [go_sem] at h
      obtain ⟨h1', h2, h15, h16, h17, rfl, rfl⟩ := h
      have hib : i < b.length := by omega
      have hc := f102_spec a[i] b[i] (hx _ (List.getElem_mem hi)) []
      simp only [go_sem] at hc
      by_cases hp : a[i] = b[i]
      · simp [hp] at hc
        simp [go_sem, h1', h2, h15, h16, h17, hi, hib, hp, hc, show i < 1000000000 by omega]
      · simp [hp] at hc
        simp [go_sem, h1', h2, h15, h16, h17, hi, hib, hp, hc])
    (fun s st h => by
      obtain ⟨tm, H, b⟩ := st
      simp only [bodyOf, Go.Proofs.Try.f101, Option.getD_some, loopsOf, rangesOf, List.nil_append, List.append_nil, List.cons_append, List.getElem?_cons_zero, List.getElem?_cons_succ]
      simp only [go_sem] at h
      obtain ⟨h1', h2, h15, h16, h17, rfl, rfl⟩ := h
      simp [go_sem, h16, h17])
    (fun _ h => by cases h)
  simp only [bodyOf, Go.Proofs.Try.f101, Option.getD_some, loopsOf, rangesOf, List.nil_append, List.append_nil, List.cons_append, List.getElem?_cons_zero, List.getElem?_cons_succ] at hR
  rw [foldE_eq b a 0 (by omega), List.drop_zero] at hR
  by_cases hab : a = b
  · simp [go_sem, hab] at hR
    simp [go_sem, hab, hR]
  · simp [go_sem, hab] at hR
    simp [go_sem, hab, h1, hR]

theorem f35_spec (a b : List (List Ext)) (hl : a.length < 1000000000) (hx : ∀ x ∈ a, x.length < 1000000000) (Y : List YF) : callS ev fs 35 [zExtss a, zExtss b] [] Y = some (.ret (zB (decide (a = b))), []) := by
  refine callS_by f35_eq rfl ?_
  simp only [bodyOf, Go.Proofs.Try.f35, Option.getD_some]
  have h := f101_spec a b hl hx []
  simp only [go_sem] at h
  simp [go_sem, h]
theorem f35_nil' : callN ev fs 10 35 [.sc (.slice none 0 0), .sc (.slice none 0 0)] [] [] = some (.ret (zB true), []) := by kernel_rfl
theorem f35_nil : callS ev fs 35 [.sc (.slice none 0 0), .sc (.slice none 0 0)] [] [] = some (.ret (zB true), []) := callS_iff.2 ⟨10, f35_nil'⟩
end Go.Proofs.Ytlphdiccffnckaa

/- Layer 7: the law ImageSteps. -/
namespace Go.Proofs.Ytlphdiccffnckaa
open Go Go.Abs

theorem diff_sym {σ : Type} (f : Nat → σ → σ) (va vb : Vol) (hab : va.length = vb.length) : ∀ (n i : Nat) (s : σ), i + n = va.length → foldE (ρ := Empty) (diffF f vb) i s (va.drop i) = foldE (diffF f va) i s (vb.drop i)
  | 0, i, s, h => by rw [List.drop_of_length_le (by omega), List.drop_of_length_le (by omega)]; rfl
  | n + 1, i, s, h => by
    have h1 : i < va.length := by omega
    have h2 : i < vb.length := by omega
    rw [List.drop_eq_getElem_cons h1, List.drop_eq_getElem_cons h2]
    simp only [foldE, diffF, List.getElem?_eq_getElem h1, List.getElem?_eq_getElem h2, Option.some.injEq]
    rw [diff_sym f va vb hab n (i + 1) _ (by omega)]
    by_cases h3 : va[i] = vb[i]
    · rw [if_pos h3, if_pos h3.symm]
    · rw [if_neg h3, if_neg (Ne.symm h3)]
theorem mExt_sym {va vb : Vol} (hab : va.length = vb.length) : mExt va vb = mExt vb va := by
  have := diff_sym extStep va vb hab va.length 0 [] (by omega)
  simp only [List.drop_zero] at this
  unfold mExt
  rw [this]
theorem mExt_len (va vb : Vol) : (mExt va vb).length ≤ va.length := by
  unfold mExt
  cases h : foldE (ρ := Empty) (diffF extStep vb) 0 [] va with
  | inl s =>
    have := (mExt_bound va vb va 0 [] s (by intro x hx; simp at hx) (by simp) h).2
    simpa using this
  | inr r => exact nomatch r
theorem zip_sym {a b : Img} (h : a.map List.length = b.map List.length) : List.zipWith mExt a b = List.zipWith mExt b a := by
  have hl := sizes_len h
  apply List.ext_getElem
  · simp [hl]
  · intro i h1 h2
    simp only [List.length_zipWith] at h1 h2
    simp only [List.getElem_zipWith]
    exact mExt_sym (sizes_get h (by omega) (by omega))

theorem mApply_shift (im : Img) (n : Nat) : ∀ (l : List Wr) (k : Nat) (c : Img), foldE (mApplyF im) (n + k) c l = match foldE (mApplyF im) k c l with
    | .inl c' => .inl c'
    | .inr r => .inr (n + r.1, r.2)
  | [], k, c => rfl
  | w :: l, k, c => by
    simp only [foldE, mApplyF]
    by_cases hf : mFits im w = 0
    · simp only [hf, if_true]
      rw [show n + k + 1 = n + (k + 1) by omega]
      exact mApply_shift im n l (k + 1) (mWr c w)
    · simp only [hf, if_false]
theorem mApplyF_sizes {c im : Img} (h : c.map List.length = im.map List.length) : mApplyF c = mApplyF im := by
  funext i d w
  unfold mApplyF
  rw [mFits_sizes h]
theorem mApply_split {im : Img} (l : List Wr) (n : Nat) (hn : n ≤ l.length) : mApply im l = match mApply im (l.take n) with
    | .inl c => (match mApply c (l.drop n) with
      | .inl c' => .inl c'
      | .inr r => .inr (n + r.1, r.2))
    | .inr r => .inr r := by
  unfold mApply
  conv => lhs; rw [← List.take_append_drop n l]
  rw [foldE_app]
  cases h : foldE (mApplyF im) 0 im (l.take n) with
  | inl c =>
    have hs := mApply_sizes _ 0 im c rfl h
    simp only [mApplyF_sizes hs]
    rw [show 0 + (l.take n).length = n + 0 by simp; omega]
    exact mApply_shift im n _ 0 c
  | inr r => rfl
theorem mCheck_sizes {c im : Img} (h : c.map List.length = im.map List.length) : mCheck c = mCheck im := by
  unfold mCheck
  have : ∀ (x : Img), (x.map fun v => (v.length : Int)) = (x.map List.length).map fun n : Nat => (n : Int) := fun x => by rw [List.map_map]; rfl
  rw [this, this, h]

theorem f6_spec (im : Img) (l : List Wr) (cut : Int) (hcut : 0 ≤ cut ∧ cut ≤ 255) (Y : List YF) : callS ev fs 6 [zImg im, zWrs l, .sc (.int .u8 cut)] [] Y = some (.ret (zB true), []) := by
  refine callS_by f6_eq rfl ?_
  simp only [bodyOf, Go.Proofs.Try.f6, Option.getD_some]
  obtain ⟨k, rfl⟩ : ∃ k : Nat, cut = k := ⟨cut.toNat, by omega⟩
  have hw := f22_call
  have h19 := f19_spec im []
  have h28 := f28_spec l []
  simp only [go_sem] at hw h19 h28
  cases hf : mFew im
  · simp [go_sem, h19, hf, hw]
  cases hg : mFewW l
  · simp [go_sem, h19, h28, hf, hg, hw]
  obtain ⟨i1, i2⟩ := few_len hf
  obtain ⟨j1, j2⟩ := fewW hg
  have i3 : ∀ x ∈ im, x.length < 1000000000 := fun x hx => by have := i2 x hx; omega
  have hkw : IntKind.wrap .i64 (k : Int) = (k : Int) := wrap64 (by omega)
  have hrem : Int.tmod (k : Int) ((l.length : Int) + 1) = ((k % (l.length + 1) : Nat) : Int) := by
    rw [← Int.natCast_succ]
    exact (Int.ofNat_tmod k (l.length + 1)).symm
  have hn : k % (l.length + 1) ≤ l.length := by have := Nat.mod_lt k (show l.length + 1 > 0 by omega); omega
  generalize k % (l.length + 1) = n at hrem hn
  have hA := f31_spec im l (by omega) (by omega) (fun w hw => by have := j2 w hw; omega) []
  have hB := f31_spec im (l.take n) (by omega) (by simp; omega) (fun w hw => by have := j2 w (List.mem_of_mem_take hw); omega) []
  have hne : ¬ ((l.length : Int) + 1 = 0) := by omega
  have hll : l.length < 1000000000 := by omega
  have htk : ∀ (f : Wr → List AV), ((l.map f).drop n).take (l.length - n) = (l.map f).drop n := fun f => List.take_of_length_le (by simp)
  by_cases h0 : ¬ mCheck im = 0
  · simp only [go_sem, zApply, h0, if_false, List.map_take] at hA hB
    by_cases hn1 : 1 > n
    · simp [go_sem, h19, h28, hf, hg, hw, hkw, hrem, hn, hne, hA, hB, h0, hll, hn1]
    · simp [go_sem, h19, h28, hf, hg, hw, hkw, hrem, hn, hne, hA, hB, h0, hll, hn1, show 0 < n by omega]
  replace h0 : mCheck im = 0 := Decidable.not_not.1 h0
  have hsp := mApply_split (im := im) l n hn
  simp only [zApply, h0, if_true] at hA hB
  cases hr : mApply im (l.take n) with
  | inr r =>
    obtain ⟨i, e⟩ := r
    rw [hr] at hsp
    obtain ⟨he, _, hin⟩ := mApply_err _ 0 im i e hr
    have hin : i < n := by simp at hin; omega
    simp only [go_sem, hr, hsp, List.map_take] at hA hB
    by_cases hn1 : 1 > n
    · omega
    · simp [go_sem, h19, h28, hf, hg, hw, hkw, hrem, hn, hne, hA, hB, he, hin, hll, hn1]
  | inl c =>
    have hs := mApply_sizes _ 0 im c rfl hr
    have hcl := sizes_len hs
    have hc0 : mCheck c = 0 := by rw [mCheck_sizes hs, h0]
    rw [hr] at hsp
    have hC := f31_spec c (l.drop n) (by omega) (by simp; omega) (fun w hw => by have := j2 w (List.mem_of_mem_drop hw); omega) []
    simp only [zApply, hc0, if_true] at hC
    cases hr2 : mApply c (l.drop n) with
    | inr r =>
      obtain ⟨i, e⟩ := r
      simp only [hr2] at hsp
      obtain ⟨he, _, hin⟩ := mApply_err _ 0 c i e hr2
      have hin : i < l.length - n := by simpa using hin
      have h25 := f25_nil
      simp only [go_sem, hr, hr2, hsp, List.map_take, List.map_drop] at hA hB hC h25
      have hsub : IntKind.wrap .i64 ((l.length : Int) - n) = ((l.length - n : Nat) : Int) := by rw [wrap64 (by omega)]; omega
      simp [go_sem, h19, h28, hf, hg, hw, hkw, hrem, hn, hne, hA, hB, hC, htk, h25, he, hll, hsub, hin, show ¬ l.length ≤ i + n by omega]
    | inl c' =>
      simp only [hr2] at hsp
      have hs2 := mApply_sizes l 0 im c' rfl hsp
      have hcl2 := sizes_len hs2
      have h25 := f25_spec c' c' (by omega) (fun v hv => by have := sizes_mem hs2 i2 v hv; omega) []
      have hp1 : mPair im c' = 0 := by simp [mPair, h0, mCheck_sizes hs2, hs2]
      have hp2 : mPair c' im = 0 := by simp [mPair, h0, mCheck_sizes hs2, hs2]
      have h34a := f34_spec im c' (by omega) (by omega) []
      have h34b := f34_spec c' im (by omega) (by omega) []
      have h35 := f35_spec (List.zipWith mExt im c') (List.zipWith mExt im c') (by simp; omega) (fun x hx => by
        obtain ⟨i, hi, rfl⟩ := List.getElem_of_mem hx
        simp only [List.length_zipWith] at hi
        rw [List.getElem_zipWith]
        have := mExt_len im[i] c'[i]
        have := i2 im[i] (List.getElem_mem _)
        omega) []
      simp only [zDiffer, hp1, hp2, if_true, zip_sym hs2] at h34a h34b
      generalize List.zipWith mExt im c' = Z at h34a h34b h35
      simp only [go_sem, hr, hr2, hsp, List.map_take, List.map_drop, decide_true] at hA hB hC h25 h34a h34b h35
      simp [go_sem, h19, h28, hf, hg, hw, hkw, hrem, hn, hne, hA, hB, hC, htk, h25, hll, h34a, h34b, h35]
end Go.Proofs.Ytlphdiccffnckaa

