/- Layer 7: Differ. -/
import Derived.Test.YtlphdiccffnckaaImi
namespace Go.Proofs.Ytlphdiccffnckaa
open Go Go.Abs

theorem f105_spec (va vb : Vol) (hab : va.length = vb.length) (hl : va.length < 100000000) (Y : List YF) : callS ev fs 105 [zVol va, zVol vb] [] Y = some (.ret (zExts (mExt va vb)), []) := by
  refine callS_by f105_eq rfl ?_
  simp only [bodyOf, Go.Proofs.Try.f105, Option.getD_some]
  obtain ⟨R, hR⟩ := fold_loop (E := ev) (C := callS ev fs) (Y := Y) (w := w105) (a := (loopsOf (bodyOf Go.Proofs.Try.f105))[0]?.getD .skip) (b := 0) 
    va (diffF extStep vb) ([] : List Ext) (ex := fun (r : Empty) => nomatch r)
    (fun i out st => (okOut i out ∧ out.length ≤ i) ∧ Live [(0, zVol va), (1, zVol vb), (5, .os 0 0 out.length out.length), (6, zI i)] [.own out.length 2 (extRows out)] 0 st)
    (fun out => Live [(5, .os 0 0 out.length out.length)] [.own out.length 2 (extRows out)] 0) (fun r => nomatch r)
    (fun i out st hi h => by
      obtain ⟨⟨ho, hol⟩, h⟩ := h
      obtain ⟨tm, H, b⟩ := st
      simp only [bodyOf, Go.Proofs.Try.f105, Option.getD_some, loopsOf, rangesOf, List.nil_append, List.append_nil, List.cons_append, List.getElem?_cons_zero, List.getElem?_cons_succ]
      simp only [go_sem] at h
      obtain ⟨h0, h1, h5, h6, rfl, rfl⟩ := h
      have hib : i < vb.length := by omega
      by_cases he : va[i] = vb[i]
      · have hm := ho.mono
        simp [go_sem, h0, h1, h5, h6, hi, hib, he, diffF, hm, show out.length ≤ i + 1 by omega, show i < 1000000000 by omega]
      have hst := ho.step
      have hr : room (out.length + 1) 16 = true := room_ok (by omega) (by omega) (by omega)
      rcases List.eq_nil_or_concat out with rfl | ⟨init, x, rfl⟩
      · simp [extStep] at hst
        simp [go_sem, h0, h1, h5, h6, hi, hib, he, diffF, hst, extStep, extRows, room1, show i < 1000000000 by omega]
      · simp only [List.concat_eq_append, List.length_append, List.length_singleton] at ho hol hr hst h5 ⊢
        have hx := ho x (by simp)
        have hil : init.length < 1000000000 := by omega
        by_cases hxi : x.s + x.n = i
        · have he1 : extStep i (init ++ [x]) = init ++ [⟨x.s, x.n + 1⟩] := by simp [extStep, hxi]
          have hw := wrap64 (x := x.n + 1) (by omega)
          rw [he1] at hst
          simp [go_sem, h0, h1, h5, h6, hi, hib, he, diffF, hst, he1, hxi, hw, hil, extRows, show init.length ≤ i by omega, show i < 1000000000 by omega]
        · have he1 : extStep i (init ++ [x]) = init ++ [x] ++ [⟨i, 1⟩] := by simp [extStep, hxi]
          have hw := wrap64 (x := x.s + x.n) (by omega)
          rw [he1] at hst
          simp [go_sem, h0, h1, h5, h6, hi, hib, he, diffF, hst, he1, hxi, hw, hil, hr, extRows, show init.length ≤ i by omega, show i < 1000000000 by omega]
          refine ⟨⟨by simpa using hst, by omega⟩, ?_⟩
          rw [List.take_of_length_le (by simp)]
          simp)
    (fun out st h => by
      obtain ⟨⟨ho, hol⟩, h⟩ := h
      obtain ⟨tm, H, b⟩ := st
      simp only [bodyOf, Go.Proofs.Try.f105, Option.getD_some, loopsOf, rangesOf, List.nil_append, List.append_nil, List.cons_append, List.getElem?_cons_zero, List.getElem?_cons_succ]
      simp only [go_sem] at h
      obtain ⟨h0, h1, h5, h6, rfl, rfl⟩ := h
      simp [go_sem, h0, h1, h5, h6])
    (fun r => nomatch r)
  simp only [bodyOf, Go.Proofs.Try.f105, Option.getD_some, loopsOf, rangesOf, List.nil_append, List.append_nil, List.cons_append, List.getElem?_cons_zero, List.getElem?_cons_succ] at hR
  obtain ⟨out, hout⟩ : ∃ out, foldE (ρ := Empty) (diffF extStep vb) 0 [] va = .inl out := by
    cases h : foldE (ρ := Empty) (diffF extStep vb) 0 [] va with
    | inl s => exact ⟨s, rfl⟩
    | inr r => exact nomatch r
  have hm : mExt va vb = out := by unfold mExt; rw [hout]
  rw [hout] at hR
  rw [hm]
  simp [go_sem, extRows, okOut] at hR
  simp [go_sem, freeze_os, hR]

theorem f50_spec (a b : List Int) (hl : a.length < 1000000000) (Y : List YF) : callS ev fs 50 [zInts a, zInts b] [] Y = some (.ret (zB (decide (a = b))), []) := by
  refine callS_by f50_eq rfl ?_
  simp only [bodyOf, Go.Proofs.Try.f50, Option.getD_some]
  by_cases h1 : a.length ≠ b.length
  · have hm : ¬ a = b := fun h => h1 (by rw [h])
    simp [go_sem, h1, hm, Int.ofNat_inj]
  replace h1 : a.length = b.length := by omega
  obtain ⟨R, hR⟩ := fold_loop (E := ev) (C := callS ev fs) (Y := Y) (w := {}) (a := (loopsOf (bodyOf Go.Proofs.Try.f50))[0]?.getD .skip) (b := 0) 
    a (fun i (_ : Unit) x => if some x = b[i]? then .inl () else .inr ()) () (ex := fun _ => .ret)
    (fun i _ => Live [(0, zInts a), (1, zInts b), (12, zI a.length), (13, zI i)] [] 0) (fun _ => Live [] [] 0) (fun _ => Live [(4, zB false)] [] 0)
    (fun i s st hi h => by
      obtain ⟨tm, H, b⟩ := st
      simp only [bodyOf, Go.Proofs.Try.f50, Option.getD_some, loopsOf, rangesOf, List.nil_append, List.append_nil, List.cons_append, List.getElem?_cons_zero, List.getElem?_cons_succ]
      simp only [go_sem] at h
      obtain ⟨h0, h1', h12, h13, rfl, rfl⟩ := h
      have hib : i < b.length := by omega
      by_cases hp : a[i] = b[i] <;> simp [go_sem, h0, h1', h12, h13, hi, hib, hp, show i < 1000000000 by omega])
    (fun s st h => by
      obtain ⟨tm, H, b⟩ := st
      simp only [bodyOf, Go.Proofs.Try.f50, Option.getD_some, loopsOf, rangesOf, List.nil_append, List.append_nil, List.cons_append, List.getElem?_cons_zero, List.getElem?_cons_succ]
      simp only [go_sem] at h
      obtain ⟨h0, h1', h12, h13, rfl, rfl⟩ := h
      simp [go_sem, h12, h13])
    (fun _ h => by cases h)
  simp only [bodyOf, Go.Proofs.Try.f50, Option.getD_some, loopsOf, rangesOf, List.nil_append, List.append_nil, List.cons_append, List.getElem?_cons_zero, List.getElem?_cons_succ] at hR
  rw [foldE_eq b a 0 (by omega), List.drop_zero] at hR
  by_cases hab : a = b
  · simp [go_sem, hab] at hR
    simp [go_sem, hab, hR]
  · simp [go_sem, hab] at hR
    simp [go_sem, hab, h1, hR]

/-- What two images that are compared are told. -/
def mPair (a b : Img) : Int := if mCheck a = 0 then if mCheck b = 0 then if a.map List.length = b.map List.length then 0 else 22 else mCheck b else mCheck a

theorem f99_spec (a b : Img) (ha : a.length < 100000000) (hb : b.length < 100000000) (Y : List YF) : callS ev fs 99 [zImg a, zImg b] [] Y = some (.ret (zI (mPair a b)), []) := by
  refine callS_by f99_eq rfl ?_
  simp only [bodyOf, Go.Proofs.Try.f99, Option.getD_some]
  have h26 : ∀ x ∈ [a, b], callS ev fs 26 [zImg x] [] [] = some (.ret (zI (mCheck x)), []) := fun x hx => f26_spec x (by
    simp at hx
    rcases hx with rfl | rfl <;> assumption) []
  obtain ⟨R, hR⟩ := fold_loop (E := ev) (C := callS ev fs) (Y := Y) (w := {}) (a := (loopsOf (bodyOf Go.Proofs.Try.f99))[0]?.getD .skip) (b := 0) 
    [a, b] (fun _ (_ : Unit) x => if mCheck x = 0 then .inl () else .inr (mCheck x)) () (ex := fun _ => .ret)
    (fun i _ => Live [(0, zImg a), (1, zImg b), (10, .sl false 1 ([a, b].map fun x => [zImg x])), (11, zI 2), (12, zI i)] [] 0) (fun _ => Live [(0, zImg a), (1, zImg b)] [] 0) (fun e => Live [(4, zI e)] [] 0)
    (fun i s st hi h => by
      obtain ⟨tm, H, b⟩ := st
      simp only [bodyOf, Go.Proofs.Try.f99, Option.getD_some, loopsOf, rangesOf, List.nil_append, List.append_nil, List.cons_append, List.getElem?_cons_zero, List.getElem?_cons_succ]
      simp only [go_sem] at h
      obtain ⟨h0, h1, h10, h11, h12, rfl, rfl⟩ := h
      have hc := h26 [a, b][i] (List.getElem_mem hi)
      have hi2 : i < 2 := by simpa using hi
      have hget : ([a, b].map fun x => [zImg x])[i]? = some [zImg [a, b][i]] := by
        rw [List.getElem?_map, List.getElem?_eq_getElem hi]; rfl
      generalize [a, b][i] = x at hc hget ⊢
      simp only [go_sem] at hc hget h10
      generalize hrows : (List.map _ [a, b]) = rows at hget h10 ⊢
      by_cases h0' : mCheck x = 0
      · simp [go_sem, h0, h1, h10, h11, h12, hget, hc, h0', hi2, show i < 1000000000 by omega]
        rw [← hrows]
        rfl
      · simp [go_sem, h0, h1, h10, h11, h12, hget, hc, h0', hi2])
    (fun s st h => by
      obtain ⟨tm, H, b⟩ := st
      simp only [bodyOf, Go.Proofs.Try.f99, Option.getD_some, loopsOf, rangesOf, List.nil_append, List.append_nil, List.cons_append, List.getElem?_cons_zero, List.getElem?_cons_succ]
      simp only [go_sem] at h
      obtain ⟨h0, h1, h10, h11, h12, rfl, rfl⟩ := h
      simp [go_sem, h0, h1, h11, h12])
    (fun _ h => by cases h)
  simp only [bodyOf, Go.Proofs.Try.f99, Option.getD_some, loopsOf, rangesOf, List.nil_append, List.append_nil, List.cons_append, List.getElem?_cons_zero, List.getElem?_cons_succ] at hR
  have h93a := f93_spec a ha []
  have h93b := f93_spec b hb []
  have h50 := f50_spec (a.map fun v => (v.length : Int)) (b.map fun v => (v.length : Int)) (by simp; omega) []
  have hse : (a.map fun v => (v.length : Int)) = (b.map fun v => (v.length : Int)) ↔ a.map List.length = b.map List.length := by
    have key : ∀ (l m : List Nat), l.map (fun n : Nat => (n : Int)) = m.map (fun n : Nat => (n : Int)) ↔ l = m := fun l m => List.map_inj_right (fun _ _ h => Int.ofNat_inj.1 h)
    rw [← key, List.map_map, List.map_map]
    rfl
  simp only [go_sem, hse, List.map_map] at h93a h93b h50
  simp only [foldE] at hR
  by_cases h0 : ¬ mCheck a = 0
  · simp [go_sem, h0] at hR
    simp [go_sem, slLit, Go.Abs.chunks, hR, mPair, h0]
  replace h0 : mCheck a = 0 := Decidable.not_not.1 h0
  by_cases h1 : ¬ mCheck b = 0
  · simp [go_sem, h0, h1] at hR
    simp [go_sem, slLit, Go.Abs.chunks, hR, mPair, h0, h1]
  replace h1 : mCheck b = 0 := Decidable.not_not.1 h1
  simp [go_sem, h0, h1] at hR
  by_cases hs : a.map List.length = b.map List.length
  · simp only [hs, decide_true] at h50
    simp [go_sem, slLit, Go.Abs.chunks, hR, mPair, h0, h1, hs, h93a, h93b, h50]
  · simp only [hs, decide_false] at h50
    simp [go_sem, slLit, Go.Abs.chunks, hR, mPair, h0, h1, hs, h93a, h93b, h50]

theorem f104_spec (a b : Img) (ha : a.length < 100000000) (hb : b.length < 100000000) (Y : List YF) : callS ev fs 104 [zImg a, zImg b] [] Y = some (.ret (zI (mPair a b)), []) := by
  refine callS_by f104_eq rfl ?_
  simp only [bodyOf, Go.Proofs.Try.f104, Option.getD_some]
  have h27a := f27_spec a ha []
  have h27b := f27_spec b hb []
  simp only [go_sem] at h27a h27b
  by_cases h0 : ¬ mCheck a = 0
  · simp [go_sem, h27a, mPair, h0]
  replace h0 : mCheck a = 0 := Decidable.not_not.1 h0
  by_cases h1 : ¬ mCheck b = 0
  · simp [go_sem, h27a, h27b, mPair, h0, h1]
  replace h1 : mCheck b = 0 := Decidable.not_not.1 h1
  by_cases hl : a.length ≠ b.length
  · have hs : ¬ a.map List.length = b.map List.length := fun h => hl (by simpa using congrArg List.length h)
    simp [go_sem, h27a, h27b, mPair, h0, h1, hs, hl, Int.ofNat_inj]
  replace hl : a.length = b.length := by omega
  obtain ⟨R, hR⟩ := fold_loop (E := ev) (C := callS ev fs) (Y := Y) (w := {}) (a := (loopsOf (bodyOf Go.Proofs.Try.f104))[0]?.getD .skip) (b := 0) 
    (a.map List.length) (fun i (_ : Unit) x => if some x = (b.map List.length)[i]? then .inl () else .inr ()) () (ex := fun _ => .ret)
    (fun i _ => Live [(0, zImg a), (1, zImg b), (7, zI i)] [] 0) (fun _ => Live [] [] 0) (fun _ => Live [(4, zI 22)] [] 0)
    (fun i s st hi h => by
      obtain ⟨tm, H, b⟩ := st
      simp only [bodyOf, Go.Proofs.Try.f104, Option.getD_some, loopsOf, rangesOf, List.nil_append, List.append_nil, List.cons_append, List.getElem?_cons_zero, List.getElem?_cons_succ]
      simp only [go_sem] at h
      obtain ⟨g0, g1, g7, rfl, rfl⟩ := h
      have hia : i < a.length := by simpa using hi
      have hib : i < b.length := by omega
      by_cases hp : a[i].length = b[i].length <;> simp [go_sem, g0, g1, g7, hia, hib, hp, Int.ofNat_inj, show i < 1000000000 by omega])
    (fun s st h => by
      obtain ⟨tm, H, b⟩ := st
      simp only [bodyOf, Go.Proofs.Try.f104, Option.getD_some, loopsOf, rangesOf, List.nil_append, List.append_nil, List.cons_append, List.getElem?_cons_zero, List.getElem?_cons_succ]
      simp only [go_sem] at h
      obtain ⟨g0, g1, g7, rfl, rfl⟩ := h
      simp [go_sem, g0, g1, g7])
    (fun _ h => by cases h)
  simp only [bodyOf, Go.Proofs.Try.f104, Option.getD_some, loopsOf, rangesOf, List.nil_append, List.append_nil, List.cons_append, List.getElem?_cons_zero, List.getElem?_cons_succ] at hR
  rw [foldE_eq (b.map List.length) (a.map List.length) 0 (by simpa using hl), List.drop_zero] at hR
  by_cases hs : a.map List.length = b.map List.length
  · simp [go_sem, hs] at hR
    simp [go_sem, h27a, h27b, mPair, h0, h1, hs, hl, hR]
  · simp [go_sem, hs] at hR
    simp [go_sem, h27a, h27b, mPair, h0, h1, hs, hl, hR]

@[go_sem] def zExtss (l : List (List Ext)) : AV := .sl false 1 (l.map fun x => [.sl false 2 (x.map fun e => [.sc (.int .i64 e.s), .sc (.int .i64 e.n)])])
def zDiffer (a b : Img) : AV := if mPair a b = 0 then .tup [zExtss (List.zipWith mExt a b), zI 0] else .tup [.sc (.slice none 0 0), zI (mPair a b)]
theorem mPair_zero {a b : Img} (h : mPair a b = 0) : mCheck a = 0 ∧ mCheck b = 0 ∧ a.map List.length = b.map List.length := by
  unfold mPair at h
  split at h
  · split at h
    · split at h
      · exact ⟨by assumption, by assumption, by assumption⟩
      · simp at h
    · contradiction
  · contradiction
theorem sizes_get {a b : Img} (h : a.map List.length = b.map List.length) {i : Nat} (ha : i < a.length) (hb : i < b.length) : a[i].length = b[i].length := by
  have := congrArg (·[i]?) h
  simpa [ha, hb] using this

theorem f34_spec (a b : Img) (ha : a.length < 100000000) (hb : b.length < 100000000) (Y : List YF) : callS ev fs 34 [zImg a, zImg b] [] Y = some (.ret (zDiffer a b), []) := by
  refine callS_by f34_eq rfl ?_
  simp only [bodyOf, Go.Proofs.Try.f34, Option.getD_some]
  have h99 := f99_spec a b ha hb []
  simp only [go_sem] at h99
  by_cases h0 : ¬ mPair a b = 0
  · simp [go_sem, h99, h0, zDiffer]
  replace h0 : mPair a b = 0 := Decidable.not_not.1 h0
  obtain ⟨q1, q2, q3⟩ := mPair_zero h0
  have hal := (mCheck_zero q1).2.2
  have hl := sizes_len q3
  obtain ⟨R, hR⟩ := fold_loop (E := ev) (C := callS ev fs) (Y := Y) (w := w34) (a := (loopsOf (bodyOf Go.Proofs.Try.f34))[0]?.getD .skip) (b := 0) 
    a (fun i s x => .inl (s ++ [mExt x ((b[i]?).getD [])])) ([] : List (List Ext)) (ex := fun (r : Empty) => nomatch r)
    (fun i s st => s.length = i ∧ Live [(0, zImg a), (1, zImg b), (7, .os 0 0 i i), (16, zI a.length), (17, zI i)] [.own i 1 (s.map fun x => [zExts x])] 0 st)
    (fun s => Live [(7, .os 0 0 a.length a.length)] [.own a.length 1 (s.map fun x => [zExts x])] 0) (fun r => nomatch r)
    (fun i s st hi h => by
      obtain ⟨rfl, h⟩ := h
      obtain ⟨tm, H, b⟩ := st
      simp only [bodyOf, Go.Proofs.Try.f34, Option.getD_some, loopsOf, rangesOf, List.nil_append, List.append_nil, List.cons_append, List.getElem?_cons_zero, List.getElem?_cons_succ]
      simp only [go_sem] at h
      obtain ⟨g0, g1, g7, g16, g17, rfl, rfl⟩ := h
      have hib : s.length < b.length := by omega
      have hr : room (s.length + 1) 24 = true := room_ok (by omega) (by omega) (by omega)
      have h100 := f100_spec a[s.length] b[s.length] (sizes_get q3 hi hib) (by have := (hal _ (List.getElem_mem hi)).2; omega) []
      simp only [go_sem] at h100
      simp [go_sem, g0, g1, g7, g16, g17, hi, hib, hr, h100, show s.length < 1000000000 by omega])
    (fun s st h => by
      obtain ⟨_, h⟩ := h
      obtain ⟨tm, H, b⟩ := st
      simp only [bodyOf, Go.Proofs.Try.f34, Option.getD_some, loopsOf, rangesOf, List.nil_append, List.append_nil, List.cons_append, List.getElem?_cons_zero, List.getElem?_cons_succ]
      simp only [go_sem] at h
      obtain ⟨g0, g1, g7, g16, g17, rfl, rfl⟩ := h
      simp [go_sem, g7, g16, g17])
    (fun r => nomatch r)
  simp only [bodyOf, Go.Proofs.Try.f34, Option.getD_some, loopsOf, rangesOf, List.nil_append, List.append_nil, List.cons_append, List.getElem?_cons_zero, List.getElem?_cons_succ] at hR
  rw [foldE_zip mExt [] b a 0 [] (by omega), List.drop_zero, List.nil_append] at hR
  have hzl : (List.zipWith mExt a b).length = a.length := by simp; omega
  have hz : zDiffer a b = .tup [zExtss (List.zipWith mExt a b), zI 0] := by unfold zDiffer; rw [if_pos h0]
  rw [hz]
  generalize List.zipWith mExt a b = Z at hR hzl ⊢
  have htk : (Z.map fun x => [AV.sl false 2 (x.map fun e => [AV.sc (.int .i64 e.s), AV.sc (.int .i64 e.n)])]).take a.length = Z.map fun x => [AV.sl false 2 (x.map fun e => [AV.sc (.int .i64 e.s), AV.sc (.int .i64 e.n)])] := List.take_of_length_le (by simp [hzl])
  simp [go_sem] at hR
  simp [go_sem, freeze_os, h99, h0, hR, hzl, htk]

theorem f39_spec (a b : Img) (ha : a.length < 100000000) (hb : b.length < 100000000) (Y : List YF) : callS ev fs 39 [zImg a, zImg b] [] Y = some (.ret (zDiffer a b), []) := by
  refine callS_by f39_eq rfl ?_
  simp only [bodyOf, Go.Proofs.Try.f39, Option.getD_some]
  have h104 := f104_spec a b ha hb []
  simp only [go_sem] at h104
  by_cases h0 : ¬ mPair a b = 0
  · simp [go_sem, h104, h0, zDiffer]
  replace h0 : mPair a b = 0 := Decidable.not_not.1 h0
  obtain ⟨q1, q2, q3⟩ := mPair_zero h0
  have hal := (mCheck_zero q1).2.2
  have hl := sizes_len q3
  obtain ⟨R, hR⟩ := fold_loop (E := ev) (C := callS ev fs) (Y := Y) (w := w39) (a := (loopsOf (bodyOf Go.Proofs.Try.f39))[0]?.getD .skip) (b := 0) 
    a (fun i s x => .inl (s ++ [mExt x ((b[i]?).getD [])])) ([] : List (List Ext)) (ex := fun (r : Empty) => nomatch r)
    (fun i s st => s.length = i ∧ Live [(0, zImg a), (1, zImg b), (7, .os 0 0 i i), (8, zI i)] [.own i 1 (s.map fun x => [zExts x])] 0 st)
    (fun s => Live [(7, .os 0 0 a.length a.length)] [.own a.length 1 (s.map fun x => [zExts x])] 0) (fun r => nomatch r)
    (fun i s st hi h => by
      obtain ⟨rfl, h⟩ := h
      obtain ⟨tm, H, b⟩ := st
      simp only [bodyOf, Go.Proofs.Try.f39, Option.getD_some, loopsOf, rangesOf, List.nil_append, List.append_nil, List.cons_append, List.getElem?_cons_zero, List.getElem?_cons_succ]
      simp only [go_sem] at h
      obtain ⟨g0, g1, g7, g8, rfl, rfl⟩ := h
      have hib : s.length < b.length := by omega
      have hr : room (s.length + 1) 24 = true := room_ok (by omega) (by omega) (by omega)
      have h105 := f105_spec a[s.length] b[s.length] (sizes_get q3 hi hib) (by have := (hal _ (List.getElem_mem hi)).2; omega) []
      simp only [go_sem] at h105
      simp [go_sem, g0, g1, g7, g8, hi, hib, hr, h105, show s.length < 1000000000 by omega])
    (fun s st h => by
      obtain ⟨_, h⟩ := h
      obtain ⟨tm, H, b⟩ := st
      simp only [bodyOf, Go.Proofs.Try.f39, Option.getD_some, loopsOf, rangesOf, List.nil_append, List.append_nil, List.cons_append, List.getElem?_cons_zero, List.getElem?_cons_succ]
      simp only [go_sem] at h
      obtain ⟨g0, g1, g7, g8, rfl, rfl⟩ := h
      simp [go_sem, g0, g7, g8])
    (fun r => nomatch r)
  simp only [bodyOf, Go.Proofs.Try.f39, Option.getD_some, loopsOf, rangesOf, List.nil_append, List.append_nil, List.cons_append, List.getElem?_cons_zero, List.getElem?_cons_succ] at hR
  rw [foldE_zip mExt [] b a 0 [] (by omega), List.drop_zero, List.nil_append] at hR
  have hzl : (List.zipWith mExt a b).length = a.length := by simp; omega
  have hz : zDiffer a b = .tup [zExtss (List.zipWith mExt a b), zI 0] := by unfold zDiffer; rw [if_pos h0]
  rw [hz]
  generalize List.zipWith mExt a b = Z at hR hzl ⊢
  have htk : (Z.map fun x => [AV.sl false 2 (x.map fun e => [AV.sc (.int .i64 e.s), AV.sc (.int .i64 e.n)])]).take a.length = Z.map fun x => [AV.sl false 2 (x.map fun e => [AV.sc (.int .i64 e.s), AV.sc (.int .i64 e.n)])] := List.take_of_length_le (by simp [hzl])
  simp [go_sem] at hR
  simp [go_sem, freeze_os, h104, h0, hR, hzl, htk]

theorem f87_spec (a b : List Ext) (hl : a.length < 1000000000) (Y : List YF) : callS ev fs 87 [zExts a, zExts b] [] Y = some (.ret (zB (decide (a = b))), []) := by
  refine callS_by f87_eq rfl ?_
  simp only [bodyOf, Go.Proofs.Try.f87, Option.getD_some]
  by_cases h1 : a.length ≠ b.length
  · have hm : ¬ a = b := fun h => h1 (by rw [h])
    simp [go_sem, h1, hm, Int.ofNat_inj]
  replace h1 : a.length = b.length := by omega
  obtain ⟨R, hR⟩ := fold_loop (E := ev) (C := callS ev fs) (Y := Y) (w := {}) (a := (loopsOf (bodyOf Go.Proofs.Try.f87))[0]?.getD .skip) (b := 0) 
    a (fun i (_ : Unit) x => if some x = b[i]? then .inl () else .inr ()) () (ex := fun _ => .ret)
    (fun i _ => Live [(0, zExts a), (1, zExts b), (12, zI a.length), (13, zI i)] [] 0) (fun _ => Live [] [] 0) (fun _ => Live [(4, zB false)] [] 0)
    (fun i s st hi h => by
      obtain ⟨tm, H, b⟩ := st
      simp only [bodyOf, Go.Proofs.Try.f87, Option.getD_some, loopsOf, rangesOf, List.nil_append, List.append_nil, List.cons_append, List.getElem?_cons_zero, List.getElem?_cons_succ]
      simp only [go_sem] at h
      obtain ⟨h0, h1', h12, h13, rfl, rfl⟩ := h
      have hib : i < b.length := by omega
      by_cases hp : a[i] = b[i] <;> simp [go_sem, h0, h1', h12, h13, hi, hib, hp, show i < 1000000000 by omega])
    (fun s st h => by
      obtain ⟨tm, H, b⟩ := st
      simp only [bodyOf, Go.Proofs.Try.f87, Option.getD_some, loopsOf, rangesOf, List.nil_append, List.append_nil, List.cons_append, List.getElem?_cons_zero, List.getElem?_cons_succ]
      simp only [go_sem] at h
      obtain ⟨h0, h1', h12, h13, rfl, rfl⟩ := h
      simp [go_sem, h12, h13])
    (fun _ h => by cases h)
  simp only [bodyOf, Go.Proofs.Try.f87, Option.getD_some, loopsOf, rangesOf, List.nil_append, List.append_nil, List.cons_append, List.getElem?_cons_zero, List.getElem?_cons_succ] at hR
  rw [foldE_eq b a 0 (by omega), List.drop_zero] at hR
  by_cases hab : a = b
  · simp [go_sem, hab] at hR
    simp [go_sem, hab, hR]
  · simp [go_sem, hab] at hR
    simp [go_sem, hab, h1, hR]

theorem f102_spec (a b : List Ext) (hl : a.length < 1000000000) (Y : List YF) : callS ev fs 102 [zExts a, zExts b] [] Y = some (.ret (zB (decide (a = b))), []) := by
  refine callS_by f102_eq rfl ?_
  simp only [bodyOf, Go.Proofs.Try.f102, Option.getD_some]
  have h := f87_spec a b hl []
  simp only [go_sem] at h
  simp [go_sem, h]

theorem f101_spec (a b : List (List Ext)) (hl : a.length < 1000000000) (hx : ∀ x ∈ a, x.length < 1000000000) (Y : List YF) : callS ev fs 101 [zExtss a, zExtss b, .fn 102 []] [] Y = some (.ret (zB (decide (a = b))), []) := by
  refine callS_by f101_eq rfl ?_
  simp only [bodyOf, Go.Proofs.Try.f101, Option.getD_some]
  by_cases h1 : a.length ≠ b.length
  · have hm : ¬ a = b := fun h => h1 (by rw [h])
    simp [go_sem, h1, hm, Int.ofNat_inj]
  replace h1 : a.length = b.length := by omega
  obtain ⟨R, hR⟩ := fold_loop (E := ev) (C := callS ev fs) (Y := Y) (w := {}) (a := (loopsOf (bodyOf Go.Proofs.Try.f101))[0]?.getD .skip) (b := 0) 
    a (fun i (_ : Unit) x => if some x = b[i]? then .inl () else .inr ()) () (ex := fun _ => .ret)
    (fun i _ => Live [(1, zExtss b), (2, .fn 102 []), (15, zExtss a), (16, zI a.length), (17, zI i)] [] 0) (fun _ => Live [] [] 0) (fun _ => Live [(6, zB false)] [] 0)
    (fun i s st hi h => by
      obtain ⟨tm, H, b⟩ := st
      simp only [bodyOf, Go.Proofs.Try.f101, Option.getD_some, loopsOf, rangesOf, List.nil_append, List.append_nil, List.cons_append, List.getElem?_cons_zero, List.getElem?_cons_succ]
      simp only [go_sem] at h
      obtain ⟨h1', h2, h15, h16, h17, rfl, rfl⟩ := h
      have hib : i < b.length := by omega
      have hc := f102_spec a[i] b[i] (hx _ (List.getElem_mem hi)) []
      simp only [go_sem] at hc
      by_cases hp : a[i] = b[i]
      · simp [hp] at hc
        simp [go_sem, h1', h2, h15, h16, h17, hi, hib, hp, hc, show i < 1000000000 by omega]
      · simp [hp] at hc
        simp [go_sem, h1', h2, h15, h16, h17, hi, hib, hp, hc])
    (fun s st h => by
      obtain ⟨tm, H, b⟩ := st
      simp only [bodyOf, Go.Proofs.Try.f101, Option.getD_some, loopsOf, rangesOf, List.nil_append, List.append_nil, List.cons_append, List.getElem?_cons_zero, List.getElem?_cons_succ]
      simp only [go_sem] at h
      obtain ⟨h1', h2, h15, h16, h17, rfl, rfl⟩ := h
      simp [go_sem, h16, h17])
    (fun _ h => by cases h)
  simp only [bodyOf, Go.Proofs.Try.f101, Option.getD_some, loopsOf, rangesOf, List.nil_append, List.append_nil, List.cons_append, List.getElem?_cons_zero, List.getElem?_cons_succ] at hR
  rw [foldE_eq b a 0 (by omega), List.drop_zero] at hR
  by_cases hab : a = b
  · simp [go_sem, hab] at hR
    simp [go_sem, hab, hR]
  · simp [go_sem, hab] at hR
    simp [go_sem, hab, h1, hR]

theorem f35_spec (a b : List (List Ext)) (hl : a.length < 1000000000) (hx : ∀ x ∈ a, x.length < 1000000000) (Y : List YF) : callS ev fs 35 [zExtss a, zExtss b] [] Y = some (.ret (zB (decide (a = b))), []) := by
  refine callS_by f35_eq rfl ?_
  simp only [bodyOf, Go.Proofs.Try.f35, Option.getD_some]
  have h := f101_spec a b hl hx []
  simp only [go_sem] at h
  simp [go_sem, h]
theorem f35_nil' : callN ev fs 10 35 [.sc (.slice none 0 0), .sc (.slice none 0 0)] [] [] = some (.ret (zB true), []) := by kernel_rfl
theorem f35_nil : callS ev fs 35 [.sc (.slice none 0 0), .sc (.slice none 0 0)] [] [] = some (.ret (zB true), []) := callS_iff.2 ⟨10, f35_nil'⟩
end Go.Proofs.Ytlphdiccffnckaa
