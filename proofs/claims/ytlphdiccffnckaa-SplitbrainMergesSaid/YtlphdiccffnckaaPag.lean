/- Texts put together: Imj, Imk, Iml, Imm, Imo, Nil, Ioa, Iob, Ioc, Iod, Iof, Iog. -/
import Derived.Test.YtlphdiccffnckaaPaf
import Derived.Test.YtlphdiccffnckaaPae

/- Layer 7: Differ. -/
namespace Go.Proofs.Ytlphdiccffnckaa
open Go Go.Abs

theorem f105_spec (va vb : Vol) (hab : va.length = vb.length) (hl : va.length < 100000000) (Y : List YF) : callS ev fs 105 [zVol va, zVol vb] [] Y = some (.ret (zExts (mExt va vb)), []) := by
  refine callS_by f105_eq rfl ?_
  simp only [bodyOf, Go.Proofs.Try.f105, Option.getD_some]
  obtain ⟨R, hR⟩ := fold_loop (E := ev) (C := callS ev fs) (Y := Y) (w := w105) (a := (loopsOf (bodyOf Go.Proofs.Try.f105))[0]?.getD .skip) (b := 0) 
    va (diffF extStep vb) ([] : List Ext) (ex := fun (r : Empty) => nomatch r)
    (fun i out st => (okOut i out ∧ out.length ≤ i) ∧ Live [(0, zVol va), (1, zVol vb), (5, .os 0 0 out.length out.length), (6, zI i)] [.own out.length 2 (extRows out)] 0 st)
    (fun out => Live [(5, .os 0 0 out.length out.length)] [.own out.length 2 (extRows out)] 0) (fun r => nomatch r)
    (fun i out st hi h => by
      obtain ⟨⟨ho, hol⟩, h⟩ := h
      obtain ⟨tm, H, b⟩ := st
      simp only [bodyOf, Go.Proofs.Try.f105, Option.getD_some, loopsOf, rangesOf, List.nil_append, List.append_nil, List.cons_append, List.getElem?_cons_zero, List.getElem?_cons_succ]
      simp only [go_sem] at h
      obtain ⟨h0, h1, h5, h6, rfl, rfl⟩ := h
      have hib : i < vb.length := by omega
      by_cases he : va[i] = vb[i]
      · have hm := ho.mono
        simp [go_sem, h0, h1, h5, h6, hi, hib, he, diffF, hm, show out.length ≤ i + 1 by omega, show i < 1000000000 by omega]
      have hst := ho.step
      have hr : room (out.length + 1) 16 = true := room_ok (by omega) (by omega) (by omega)
      rcases List.eq_nil_or_concat out with rfl | ⟨init, x, rfl⟩
      · simp [extStep] at hst
        simp [go_sem, h0, h1, h5, h6, hi, hib, he, diffF, hst, extStep, extRows, room1, show i < 1000000000 by omega]
      · simp only [List.concat_eq_append, List.length_append, List.length_singleton] at ho hol hr hst h5 ⊢
        have hx := ho x (by simp)
        have hil : init.length < 1000000000 := by omega
        by_cases hxi : x.s + x.n = i
        · have he1 : extStep i (init ++ [x]) = init ++ [⟨x.s, x.n + 1⟩] := by simp [extStep, hxi]
          have hw := wrap64 (x := x.n + 1) (by omega)
          rw [he1] at hst
          simp [go_sem, h0, h1, h5, h6, hi, hib, he, diffF, hst, he1, hxi, hw, hil, extRows, show init.length ≤ i by omega, show i < 1000000000 by omega]
        · have he1 : extStep i (init ++ [x]) = init ++ [x] ++ [⟨i, 1⟩] := by simp [extStep, hxi]
          have hw := wrap64 (x := x.s + x.n) (by omega)
          rw [he1] at hst
          simp [go_sem, h0, h1, h5, h6, hi, hib, he, diffF, hst, he1, hxi, hw, hil, hr, extRows, show init.length ≤ i by omega, show i < 1000000000 by omega]
          refine ⟨⟨by simpa using hst, by omega⟩, ?_⟩
          rw [List.take_of_length_le (by simp)]
          simp)
    (fun out st h => by
      obtain ⟨⟨ho, hol⟩, h⟩ := h
      obtain ⟨tm, H, b⟩ := st
      simp only [bodyOf, Go.Proofs.Try.f105, Option.getD_some, loopsOf, rangesOf, List.nil_append, List.append_nil, List.cons_append, List.getElem?_cons_zero, List.getElem?_cons_succ]
      simp only [go_sem] at h
      obtain ⟨h0, h1, h5, h6, rfl, rfl⟩ := h
      simp [go_sem, h0, h1, h5, h6])
    (fun r => nomatch r)
  simp only [bodyOf, Go.Proofs.Try.f105, Option.getD_some, loopsOf, rangesOf, List.nil_append, List.append_nil, List.cons_append, List.getElem?_cons_zero, List.getElem?_cons_succ] at hR
  obtain ⟨out, hout⟩ : ∃ out, foldE (ρ := Empty) (diffF extStep vb) 0 [] va = .inl out := by
    cases h : foldE (ρ := Empty) (diffF extStep vb) 0 [] va with
    | inl s => exact ⟨s, rfl⟩
    | inr r => exact nomatch r
  have hm : mExt va vb = out := by unfold mExt; rw [hout]
  rw [hout] at hR
  rw [hm]
  simp [go_sem, extRows, okOut] at hR
  simp [go_sem, freeze_os, hR]

theorem f50_spec (a b : List Int) (hl : a.length < 1000000000) (Y : List YF) : callS ev fs 50 [zInts a, zInts b] [] Y = some (.ret (zB (decide (a = b))), []) := by
  refine callS_by f50_eq rfl ?_
  simp only [bodyOf, Go.Proofs.Try.f50, Option.getD_some]
  by_cases h1 : a.length ≠ b.length
  · have hm : ¬ a = b := fun h => h1 (by rw [h])
    simp [go_sem, h1, hm, Int.ofNat_inj]
  replace h1 : a.length = b.length := by omega
  obtain ⟨R, hR⟩ := fold_loop (E := ev) (C := callS ev fs) (Y := Y) (w := {}) (a := (loopsOf (bodyOf Go.Proofs.Try.f50))[0]?.getD .skip) (b := 0) 
    a (fun i (_ : Unit) x => if some x = b[i]? then .inl () else .inr ()) () (ex := fun _ => .ret)
    (fun i _ => Live [(0, zInts a), (1, zInts b), (12, zI a.length), (13, zI i)] [] 0) (fun _ => Live [] [] 0) (fun _ => Live [(4, zB false)] [] 0)
    (fun i s st hi h => by
      obtain ⟨tm, H, b⟩ := st
      simp only [bodyOf, Go.Proofs.Try.f50, Option.getD_some, loopsOf, rangesOf, List.nil_append, List.append_nil, List.cons_append, List.getElem?_cons_zero, List.getElem?_cons_succ]
      simp only [go_sem] at h
      obtain ⟨h0, h1', h12, h13, rfl, rfl⟩ := h
      have hib : i < b.length := by omega
      by_cases hp : a[i] = b[i] <;> simp [go_sem, h0, h1', h12, h13, hi, hib, hp, show i < 1000000000 by omega])
    (fun s st h => by
      obtain ⟨tm, H, b⟩ := st
      simp only [bodyOf, Go.Proofs.Try.f50, Option.getD_some, loopsOf, rangesOf, List.nil_append, List.append_nil, List.cons_append, List.getElem?_cons_zero, List.getElem?_cons_succ]
      simp only [go_sem] at h
      obtain ⟨h0, h1', h12, h13, rfl, rfl⟩ := h
      simp [go_sem, h12, h13])
    (fun _ h => by cases h)
  simp only [bodyOf, Go.Proofs.Try.f50, Option.getD_some, loopsOf, rangesOf, List.nil_append, List.append_nil, List.cons_append, List.getElem?_cons_zero, List.getElem?_cons_succ] at hR
  rw [foldE_eq b a 0 (by omega), List.drop_zero] at hR
  by_cases hab : a = b
  · simp [go_sem, hab] at hR
    simp [go_sem, hab, hR]
  · simp [go_sem, hab] at hR
    simp [go_sem, hab, h1, hR]

/-- What two images that are compared are told. -/
def mPair (a b : Img) : Int := if mCheck a = 0 then if mCheck b = 0 then if a.map List.length = b.map List.length then 0 else 22 else mCheck b else mCheck a

theorem f99_spec (a b : Img) (ha : a.length < 100000000) (hb : b.length < 100000000) (Y : List YF) : callS ev fs 99 [zImg a, zImg b] [] Y = some (.ret (zI (mPair a b)), []) := by
  refine callS_by f99_eq rfl ?_
  simp only [bodyOf, Go.Proofs.Try.f99, Option.getD_some]
  have h26 : ∀ x ∈ [a, b], callS ev fs 26 [zImg x] [] [] = some (.ret (zI (mCheck x)), []) := fun x hx => f26_spec x (by
    simp at hx
    rcases hx with rfl | rfl <;> assumption) []
  obtain ⟨R, hR⟩ := fold_loop (E := ev) (C := callS ev fs) (Y := Y) (w := {}) (a := (loopsOf (bodyOf Go.Proofs.Try.f99))[0]?.getD .skip) (b := 0) 
    [a, b] (fun _ (_ : Unit) x => if mCheck x = 0 then .inl () else .inr (mCheck x)) () (ex := fun _ => .ret)
    (fun i _ => Live [(0, zImg a), (1, zImg b), (10, .sl false 1 ([a, b].map fun x => [zImg x])), (11, zI 2), (12, zI i)] [] 0) (fun _ => Live [(0, zImg a), (1, zImg b)] [] 0) (fun e => Live [(4, zI e)] [] 0)
    (fun i s st hi h => by
      obtain ⟨tm, H, b⟩ := st
      simp only [bodyOf, Go.Proofs.Try.f99, Option.getD_some, loopsOf, rangesOf, List.nil_append, List.append_nil, List.cons_append, List.getElem?_cons_zero, List.getElem?_cons_succ]
      simp only [go_sem] at h
      obtain ⟨h0, h1, h10, h11, h12, rfl, rfl⟩ := h
      have hc := h26 [a, b][i] (List.getElem_mem hi)
      have hi2 : i < 2 := by simpa using hi
      have hget : ([a, b].map fun x => [zImg x])[i]? = some [zImg [a, b][i]] := by
        rw [List.getElem?_map, List.getElem?_eq_getElem hi]; rfl
      generalize [a, b][i] = x at hc hget ⊢
      simp only [go_sem] at hc hget h10
      generalize hrows : (List.map _ [a, b]) = rows at hget h10 ⊢
      by_cases h0' : mCheck x = 0
      · simp [go_sem, h0, h1, h10, h11, h12, hget, hc, h0', hi2, show i < 1000000000 by omega]
        rw [← hrows]
        rfl
      · simp [go_sem, h0, h1, h10, h11, h12, hget, hc, h0', hi2])
    (fun s st h => by
      obtain ⟨tm, H, b⟩ := st
      simp only [bodyOf, Go.Proofs.Try.f99, Option.getD_some, loopsOf, rangesOf, List.nil_append, List.append_nil, List.cons_append, List.getElem?_cons_zero, List.getElem?_cons_succ]
      simp only [go_sem] at h
      obtain ⟨h0, h1, h10, h11, h12, rfl, rfl⟩ := h
      simp [go_sem, h0, h1, h11, h12])
    (fun _ h => by cases h)
  simp only [bodyOf, Go.Proofs.Try.f99, Option.getD_some, loopsOf, rangesOf, List.nil_append, List.append_nil, List.cons_append, List.getElem?_cons_zero, List.getElem?_cons_succ] at hR
  have h93a := f93_spec a ha []
  have h93b := f93_spec b hb []
  have h50 := f50_spec (a.map fun v => (v.length : Int)) (b.map fun v => (v.length : Int)) (by simp; omega) []
  have hse : (a.map fun v => (v.length : Int)) = (b.map fun v => (v.length : Int)) ↔ a.map List.length = b.map List.length := by
    have key : ∀ (l m : List Nat), l.map (fun n : Nat => (n : Int)) = m.map (fun n : Nat => (n : Int)) ↔ l = m := fun l m => List.map_inj_right (fun _ _ h => Int.ofNat_inj.1 h)
    rw [← key, List.map_map, List.map_map]
    rfl
  simp only [go_sem, hse, List.map_map] at h93a h93b h50
  simp only [foldE] at hR
  by_cases h0 : ¬ mCheck a = 0
  · simp [go_sem, h0] at hR
    simp [go_sem, slLit, Go.Abs.chunks, hR, mPair, h0]
  replace h0 : mCheck a = 0 := Decidable.not_not.1 h0
  by_cases h1 : ¬ mCheck b = 0
  · simp [go_sem, h0, h1] at hR
    simp [go_sem, slLit, Go.Abs.chunks, hR, mPair, h0, h1]
  replace h1 : mCheck b = 0 := Decidable.not_not.1 h1
  simp [go_sem, h0, h1] at hR
  by_cases hs : a.map List.length = b.map List.length
  · simp only [hs, decide_true] at h50
    simp [go_sem, slLit, Go.Abs.chunks, hR, mPair, h0, h1, hs, h93a, h93b, h50]
  · simp only [hs, decide_false] at h50
    simp [go_sem, slLit, Go.Abs.chunks, hR, mPair, h0, h1, hs, h93a, h93b, h50]

theorem f104_spec (a b : Img) (ha : a.length < 100000000) (hb : b.length < 100000000) (Y : List YF) : callS ev fs 104 [zImg a, zImg b] [] Y = some (.ret (zI (mPair a b)), []) := by
  refine callS_by f104_eq rfl ?_
  simp only [bodyOf, Go.Proofs.Try.f104, Option.getD_some]
  have h27a := f27_spec a ha []
  have h27b := f27_spec b hb []
  simp only [go_sem] at h27a h27b
  by_cases h0 : ¬ mCheck a = 0
  · simp [go_sem, h27a, mPair, h0]
  replace h0 : mCheck a = 0 := Decidable.not_not.1 h0
  by_cases h1 : ¬ mCheck b = 0
  · simp [go_sem, h27a, h27b, mPair, h0, h1]
  replace h1 : mCheck b = 0 := Decidable.not_not.1 h1
  by_cases hl : a.length ≠ b.length
  · have hs : ¬ a.map List.length = b.map List.length := fun h => hl (by simpa using congrArg List.length h)
    simp [go_sem, h27a, h27b, mPair, h0, h1, hs, hl, Int.ofNat_inj]
  replace hl : a.length = b.length := by omega
  obtain ⟨R, hR⟩ := fold_loop (E := ev) (C := callS ev fs) (Y := Y) (w := {}) (a := (loopsOf (bodyOf Go.Proofs.Try.f104))[0]?.getD .skip) (b := 0) 
    (a.map List.length) (fun i (_ : Unit) x => if some x = (b.map List.length)[i]? then .inl () else .inr ()) () (ex := fun _ => .ret)
    (fun i _ => Live [(0, zImg a), (1, zImg b), (7, zI i)] [] 0) (fun _ => Live [] [] 0) (fun _ => Live [(4, zI 22)] [] 0)
    (fun i s st hi h => by
      obtain ⟨tm, H, b⟩ := st
      simp only [bodyOf, Go.Proofs.Try.f104, Option.getD_some, loopsOf, rangesOf, List.nil_append, List.append_nil, List.cons_append, List.getElem?_cons_zero, List.getElem?_cons_succ]
      simp only [go_sem] at h
      obtain ⟨g0, g1, g7, rfl, rfl⟩ := h
      have hia : i < a.length := by simpa using hi
      have hib : i < b.length := by omega
      by_cases hp : a[i].length = b[i].length <;> simp [go_sem, g0, g1, g7, hia, hib, hp, Int.ofNat_inj, show i < 1000000000 by omega])
    (fun s st h => by
      obtain ⟨tm, H, b⟩ := st
      simp only [bodyOf, Go.Proofs.Try.f104, Option.getD_some, loopsOf, rangesOf, List.nil_append, List.append_nil, List.cons_append, List.getElem?_cons_zero, List.getElem?_cons_succ]
      simp only [go_sem] at h
      obtain ⟨g0, g1, g7, rfl, rfl⟩ := h
      simp [go_sem, g0, g1, g7])
    (fun _ h => by cases h)
  simp only [bodyOf, Go.Proofs.Try.f104, Option.getD_some, loopsOf, rangesOf, List.nil_append, List.append_nil, List.cons_append, List.getElem?_cons_zero, List.getElem?_cons_succ] at hR
  rw [foldE_eq (b.map List.length) (a.map List.length) 0 (by simpa using hl), List.drop_zero] at hR
  by_cases hs : a.map List.length = b.map List.length
  · simp [go_sem, hs] at hR
    simp [go_sem, h27a, h27b, mPair, h0, h1, hs, hl, hR]
  · simp [go_sem, hs] at hR
    simp [go_sem, h27a, h27b, mPair, h0, h1, hs, hl, hR]

@[go_sem] def zExtss (l : List (List Ext)) : AV := .sl false 1 (l.map fun x => [.sl false 2 (x.map fun e => [.sc (.int .i64 e.s), .sc (.int .i64 e.n)])])
def zDiffer (a b : Img) : AV := if mPair a b = 0 then .tup [zExtss (List.zipWith mExt a b), zI 0] else .tup [.sc (.slice none 0 0), zI (mPair a b)]
theorem mPair_zero {a b : Img} (h : mPair a b = 0) : mCheck a = 0 ∧ mCheck b = 0 ∧ a.map List.length = b.map List.length := by
  unfold mPair at h
  split at h
  · split at h
    · split at h
      · exact ⟨by assumption, by assumption, by assumption⟩
      · simp at h
    · contradiction
  · contradiction
theorem sizes_get {a b : Img} (h : a.map List.length = b.map List.length) {i : Nat} (ha : i < a.length) (hb : i < b.length) : a[i].length = b[i].length := by
  have := congrArg (·[i]?) h
  simpa [ha, hb] using this

theorem f34_spec (a b : Img) (ha : a.length < 100000000) (hb : b.length < 100000000) (Y : List YF) : callS ev fs 34 [zImg a, zImg b] [] Y = some (.ret (zDiffer a b), []) := by
  refine callS_by f34_eq rfl ?_
  simp only [bodyOf, Go.Proofs.Try.f34, Option.getD_some]
  have h99 := f99_spec a b ha hb []
  simp only [go_sem] at h99
  by_cases h0 : ¬ mPair a b = 0
  · simp [go_sem, h99, h0, zDiffer]
  replace h0 : mPair a b = 0 := Decidable.not_not.1 h0
  obtain ⟨q1, q2, q3⟩ := mPair_zero h0
  have hal := (mCheck_zero q1).2.2
  have hl := sizes_len q3
  obtain ⟨R, hR⟩ := fold_loop (E := ev) (C := callS ev fs) (Y := Y) (w := w34) (a := (loopsOf (bodyOf Go.Proofs.Try.f34))[0]?.getD .skip) (b := 0) 
    a (fun i s x => .inl (s ++ [mExt x ((b[i]?).getD [])])) ([] : List (List Ext)) (ex := fun (r : Empty) => nomatch r)
    (fun i s st => s.length = i ∧ Live [(0, zImg a), (1, zImg b), (7, .os 0 0 i i), (16, zI a.length), (17, zI i)] [.own i 1 (s.map fun x => [zExts x])] 0 st)
    (fun s => Live [(7, .os 0 0 a.length a.length)] [.own a.length 1 (s.map fun x => [zExts x])] 0) (fun r => nomatch r)
    (fun i s st hi h => by
      obtain ⟨rfl, h⟩ := h
      obtain ⟨tm, H, b⟩ := st
      simp only [bodyOf, Go.Proofs.Try.f34, Option.getD_some, loopsOf, rangesOf, List.nil_append, List.append_nil, List.cons_append, List.getElem?_cons_zero, List.getElem?_cons_succ]
      simp only [go_sem] at h
      obtain ⟨g0, g1, g7, g16, g17, rfl, rfl⟩ := h
      have hib : s.length < b.length := by omega
      have hr : room (s.length + 1) 24 = true := room_ok (by omega) (by omega) (by omega)
      have h100 := f100_spec a[s.length] b[s.length] (sizes_get q3 hi hib) (by have := (hal _ (List.getElem_mem hi)).2; omega) []
      simp only [go_sem] at h100
      simp [go_sem, g0, g1, g7, g16, g17, hi, hib, hr, h100, show s.length < 1000000000 by omega])
    (fun s st h => by
      obtain ⟨_, h⟩ := h
      obtain ⟨tm, H, b⟩ := st
      simp only [bodyOf, Go.Proofs.Try.f34, Option.getD_some, loopsOf, rangesOf, List.nil_append, List.append_nil, List.cons_append, List.getElem?_cons_zero, List.getElem?_cons_succ]
      simp only [go_sem] at h
      obtain ⟨g0, g1, g7, g16, g17, rfl, rfl⟩ := h
      simp [go_sem, g7, g16, g17])
    (fun r => nomatch r)
  simp only [bodyOf, Go.Proofs.Try.f34, Option.getD_some, loopsOf, rangesOf, List.nil_append, List.append_nil, List.cons_append, List.getElem?_cons_zero, List.getElem?_cons_succ] at hR
  rw [foldE_zip mExt [] b a 0 [] (by omega), List.drop_zero, List.nil_append] at hR
  have hzl : (List.zipWith mExt a b).length = a.length := by simp; omega
  have hz : zDiffer a b = .tup [zExtss (List.zipWith mExt a b), zI 0] := by unfold zDiffer; rw [if_pos h0]
  rw [hz]
  generalize List.zipWith mExt a b = Z at hR hzl ⊢
  have htk : (Z.map fun x => [AV.sl false 2 (x.map fun e => [AV.sc (.int .i64 e.s), AV.sc (.int .i64 e.n)])]).take a.length = Z.map fun x => [AV.sl false 2 (x.map fun e => [AV.sc (.int .i64 e.s), AV.sc (.int .i64 e.n)])] := List.take_of_length_le (by simp [hzl])
  simp [go_sem] at hR
  simp [go_sem, freeze_os, h99, h0, hR, hzl, htk]

theorem f39_spec (a b : Img) (ha : a.length < 100000000) (hb : b.length < 100000000) (Y : List YF) : callS ev fs 39 [zImg a, zImg b] [] Y = some (.ret (zDiffer a b), []) := by
  refine callS_by f39_eq rfl ?_
  simp only [bodyOf, Go.Proofs.Try.f39, Option.getD_some]
  have h104 := f104_spec a b ha hb []
  simp only [go_sem] at h104
  by_cases h0 : ¬ mPair a b = 0
  · simp [go_sem, h104, h0, zDiffer]
  replace h0 : mPair a b = 0 := Decidable.not_not.1 h0
  obtain ⟨q1, q2, q3⟩ := mPair_zero h0
  have hal := (mCheck_zero q1).2.2
  have hl := sizes_len q3
  obtain ⟨R, hR⟩ := fold_loop (E := ev) (C := callS ev fs) (Y := Y) (w := w39) (a := (loopsOf (bodyOf Go.Proofs.Try.f39))[0]?.getD .skip) (b := 0) 
    a (fun i s x => .inl (s ++ [mExt x ((b[i]?).getD [])])) ([] : List (List Ext)) (ex := fun (r : Empty) => nomatch r)
    (fun i s st => s.length = i ∧ Live [(0, zImg a), (1, zImg b), (7, .os 0 0 i i), (8, zI i)] [.own i 1 (s.map fun x => [zExts x])] 0 st)
    (fun s => Live [(7, .os 0 0 a.length a.length)] [.own a.length 1 (s.map fun x => [zExts x])] 0) (fun r => nomatch r)
    (fun i s st hi h => by
      obtain ⟨rfl, h⟩ := h
      obtain ⟨tm, H, b⟩ := st
      simp only [bodyOf, Go.Proofs.Try.f39, Option.getD_some, loopsOf, rangesOf, List.nil_append, List.append_nil, List.cons_append, List.getElem?_cons_zero, List.getElem?_cons_succ]
      simp only [go_sem] at h
      obtain ⟨g0, g1, g7, g8, rfl, rfl⟩ := h
      have hib : s.length < b.length := by omega
      have hr : room (s.length + 1) 24 = true := room_ok (by omega) (by omega) (by omega)
      have h105 := f105_spec a[s.length] b[s.length] (sizes_get q3 hi hib) (by have := (hal _ (List.getElem_mem hi)).2; omega) []
      simp only [go_sem] at h105
      simp [go_sem, g0, g1, g7, g8, hi, hib, hr, h105, show s.length < 1000000000 by omega])
    (fun s st h => by
      obtain ⟨_, h⟩ := h
      obtain ⟨tm, H, b⟩ := st
      simp only [bodyOf, Go.Proofs.Try.f39, Option.getD_some, loopsOf, rangesOf, List.nil_append, List.append_nil, List.cons_append, List.getElem?_cons_zero, List.getElem?_cons_succ]
      simp only [go_sem] at h
      obtain ⟨g0, g1, g7, g8, rfl, rfl⟩ := h
      simp [go_sem, g0, g7, g8])
    (fun r => nomatch r)
  simp only [bodyOf, Go.Proofs.Try.f39, Option.getD_some, loopsOf, rangesOf, List.nil_append, List.append_nil, List.cons_append, List.getElem?_cons_zero, List.getElem?_cons_succ] at hR
  rw [foldE_zip mExt [] b a 0 [] (by omega), List.drop_zero, List.nil_append] at hR
  have hzl : (List.zipWith mExt a b).length = a.length := by simp; omega
  have hz : zDiffer a b = .tup [zExtss (List.zipWith mExt a b), zI 0] := by unfold zDiffer; rw [if_pos h0]
  rw [hz]
  generalize List.zipWith mExt a b = Z at hR hzl ⊢
  have htk : (Z.map fun x => [AV.sl false 2 (x.map fun e => [AV.sc (.int .i64 e.s), AV.sc (.int .i64 e.n)])]).take a.length = Z.map fun x => [AV.sl false 2 (x.map fun e => [AV.sc (.int .i64 e.s), AV.sc (.int .i64 e.n)])] := List.take_of_length_le (by simp [hzl])
  simp [go_sem] at hR
  simp [go_sem, freeze_os, h104, h0, hR, hzl, htk]

theorem f87_spec (a b : List Ext) (hl : a.length < 1000000000) (Y : List YF) : callS ev fs 87 [zExts a, zExts b] [] Y = some (.ret (zB (decide (a = b))), []) := by
  refine callS_by f87_eq rfl ?_
  simp only [bodyOf, Go.Proofs.Try.f87, Option.getD_some]
  by_cases h1 : a.length ≠ b.length
  · have hm : ¬ a = b := fun h => h1 (by rw [h])
    simp [go_sem, h1, hm, Int.ofNat_inj]
  replace h1 : a.length = b.length := by omega
  obtain ⟨R, hR⟩ := fold_loop (E := ev) (C := callS ev fs) (Y := Y) (w := {}) (a := (loopsOf (bodyOf Go.Proofs.Try.f87))[0]?.getD .skip) (b := 0) 
    a (fun i (_ : Unit) x => if some x = b[i]? then .inl () else .inr ()) () (ex := fun _ => .ret)
    (fun i _ => Live [(0, zExts a), (1, zExts b), (12, zI a.length), (13, zI i)] [] 0) (fun _ => Live [] [] 0) (fun _ => Live [(4, zB false)] [] 0)
    (fun i s st hi h => by
      obtain ⟨tm, H, b⟩ := st
      simp only [bodyOf, Go.Proofs.Try.f87, Option.getD_some, loopsOf, rangesOf, List.nil_append, List.append_nil, List.cons_append, List.getElem?_cons_zero, List.getElem?_cons_succ]
      simp only [go_sem] at h
      obtain ⟨h0, h1', h12, h13, rfl, rfl⟩ := h
      have hib : i < b.length := by omega
      by_cases hp : a[i] = b[i] <;> simp [go_sem, h0, h1', h12, h13, hi, hib, hp, show i < 1000000000 by omega])
    (fun s st h => by
      obtain ⟨tm, H, b⟩ := st
      simp only [bodyOf, Go.Proofs.Try.f87, Option.getD_some, loopsOf, rangesOf, List.nil_append, List.append_nil, List.cons_append, List.getElem?_cons_zero, List.getElem?_cons_succ]
      simp only [go_sem] at h
      obtain ⟨h0, h1', h12, h13, rfl, rfl⟩ := h
      simp [go_sem, h12, h13])
    (fun _ h => by cases h)
  simp only [bodyOf, Go.Proofs.Try.f87, Option.getD_some, loopsOf, rangesOf, List.nil_append, List.append_nil, List.cons_append, List.getElem?_cons_zero, List.getElem?_cons_succ] at hR
  rw [foldE_eq b a 0 (by omega), List.drop_zero] at hR
  by_cases hab : a = b
  · simp [go_sem, hab] at hR
    simp [go_sem, hab, hR]
  · simp [go_sem, hab] at hR
    simp [go_sem, hab, h1, hR]

theorem f102_spec (a b : List Ext) (hl : a.length < 1000000000) (Y : List YF) : callS ev fs 102 [zExts a, zExts b] [] Y = some (.ret (zB (decide (a = b))), []) := by
  refine callS_by f102_eq rfl ?_
  simp only [bodyOf, Go.Proofs.Try.f102, Option.getD_some]
  have h := f87_spec a b hl []
  simp only [go_sem] at h
  simp [go_sem, h]

theorem f101_spec (a b : List (List Ext)) (hl : a.length < 1000000000) (hx : ∀ x ∈ a, x.length < 1000000000) (Y : List YF) : callS ev fs 101 [zExtss a, zExtss b, .fn 102 []] [] Y = some (.ret (zB (decide (a = b))), []) := by
  refine callS_by f101_eq rfl ?_
  simp only [bodyOf, Go.Proofs.Try.f101, Option.getD_some]
  by_cases h1 : a.length ≠ b.length
  · have hm : ¬ a = b := fun h => h1 (by rw [h])
    simp [go_sem, h1, hm, Int.ofNat_inj]
  replace h1 : a.length = b.length := by omega
  obtain ⟨R, hR⟩ := fold_loop (E := ev) (C := callS ev fs) (Y := Y) (w := {}) (a := (loopsOf (bodyOf Go.Proofs.Try.f101))[0]?.getD .skip) (b := 0) 
    a (fun i (_ : Unit) x => if some x = b[i]? then .inl () else .inr ()) () (ex := fun _ => .ret)
    (fun i _ => Live [(1, zExtss b), (2, .fn 102 []), (15, zExtss a), (16, zI a.length), (17, zI i)] [] 0) (fun _ => Live [] [] 0) (fun _ => Live [(6, zB false)] [] 0)
    (fun i s st hi h => by
      obtain ⟨tm, H, b⟩ := st
      simp only [bodyOf, Go.Proofs.Try.f101, Option.getD_some, loopsOf, rangesOf, List.nil_append, List.append_nil, List.cons_append, List.getElem?_cons_zero, List.getElem?_cons_succ]
      simp only [go_sem] at h
      obtain ⟨h1', h2, h15, h16, h17, rfl, rfl⟩ := h
      have hib : i < b.length := by omega
      have hc := f102_spec a[i] b[i] (hx _ (List.getElem_mem hi)) []
      simp only [go_sem] at hc
      by_cases hp : a[i] = b[i]
      · simp [hp] at hc
        simp [go_sem, h1', h2, h15, h16, h17, hi, hib, hp, hc, show i < 1000000000 by omega]
      · simp [hp] at hc
        simp [go_sem, h1', h2, h15, h16, h17, hi, hib, hp, hc])
    (fun s st h => by
      obtain ⟨tm, H, b⟩ := st
      simp only [bodyOf, Go.Proofs.Try.f101, Option.getD_some, loopsOf, rangesOf, List.nil_append, List.append_nil, List.cons_append, List.getElem?_cons_zero, List.getElem?_cons_succ]
      simp only [go_sem] at h
      obtain ⟨h1', h2, h15, h16, h17, rfl, rfl⟩ := h
      simp [go_sem, h16, h17])
    (fun _ h => by cases h)
  simp only [bodyOf, Go.Proofs.Try.f101, Option.getD_some, loopsOf, rangesOf, List.nil_append, List.append_nil, List.cons_append, List.getElem?_cons_zero, List.getElem?_cons_succ] at hR
  rw [foldE_eq b a 0 (by omega), List.drop_zero] at hR
  by_cases hab : a = b
  · simp [go_sem, hab] at hR
    simp [go_sem, hab, hR]
  · simp [go_sem, hab] at hR
    simp [go_sem, hab, h1, hR]

theorem f35_spec (a b : List (List Ext)) (hl : a.length < 1000000000) (hx : ∀ x ∈ a, x.length < 1000000000) (Y : List YF) : callS ev fs 35 [zExtss a, zExtss b] [] Y = some (.ret (zB (decide (a = b))), []) := by
  refine callS_by f35_eq rfl ?_
  simp only [bodyOf, Go.Proofs.Try.f35, Option.getD_some]
  have h := f101_spec a b hl hx []
  simp only [go_sem] at h
  simp [go_sem, h]
theorem f35_nil' : callN ev fs 10 35 [.sc (.slice none 0 0), .sc (.slice none 0 0)] [] [] = some (.ret (zB true), []) := by kernel_rfl
theorem f35_nil : callS ev fs 35 [.sc (.slice none 0 0), .sc (.slice none 0 0)] [] [] = some (.ret (zB true), []) := callS_iff.2 ⟨10, f35_nil'⟩
end Go.Proofs.Ytlphdiccffnckaa

/- Layer 7: the law ImageSteps. -/
namespace Go.Proofs.Ytlphdiccffnckaa
open Go Go.Abs

theorem diff_sym {σ : Type} (f : Nat → σ → σ) (va vb : Vol) (hab : va.length = vb.length) : ∀ (n i : Nat) (s : σ), i + n = va.length → foldE (ρ := Empty) (diffF f vb) i s (va.drop i) = foldE (diffF f va) i s (vb.drop i)
  | 0, i, s, h => by rw [List.drop_of_length_le (by omega), List.drop_of_length_le (by omega)]; rfl
  | n + 1, i, s, h => by
    have h1 : i < va.length := by omega
    have h2 : i < vb.length := by omega
    rw [List.drop_eq_getElem_cons h1, List.drop_eq_getElem_cons h2]
    simp only [foldE, diffF, List.getElem?_eq_getElem h1, List.getElem?_eq_getElem h2, Option.some.injEq]
    rw [diff_sym f va vb hab n (i + 1) _ (by omega)]
    by_cases h3 : va[i] = vb[i]
    · rw [if_pos h3, if_pos h3.symm]
    · rw [if_neg h3, if_neg (Ne.symm h3)]
theorem mExt_sym {va vb : Vol} (hab : va.length = vb.length) : mExt va vb = mExt vb va := by
  have := diff_sym extStep va vb hab va.length 0 [] (by omega)
  simp only [List.drop_zero] at this
  unfold mExt
  rw [this]
theorem mExt_len (va vb : Vol) : (mExt va vb).length ≤ va.length := by
  unfold mExt
  cases h : foldE (ρ := Empty) (diffF extStep vb) 0 [] va with
  | inl s =>
    have := (mExt_bound va vb va 0 [] s (by intro x hx; simp at hx) (by simp) h).2
    simpa using this
  | inr r => exact nomatch r
theorem zip_sym {a b : Img} (h : a.map List.length = b.map List.length) : List.zipWith mExt a b = List.zipWith mExt b a := by
  have hl := sizes_len h
  apply List.ext_getElem
  · simp [hl]
  · intro i h1 h2
    simp only [List.length_zipWith] at h1 h2
    simp only [List.getElem_zipWith]
    exact mExt_sym (sizes_get h (by omega) (by omega))

theorem mApply_shift (im : Img) (n : Nat) : ∀ (l : List Wr) (k : Nat) (c : Img), foldE (mApplyF im) (n + k) c l = match foldE (mApplyF im) k c l with
    | .inl c' => .inl c'
    | .inr r => .inr (n + r.1, r.2)
  | [], k, c => rfl
  | w :: l, k, c => by
    simp only [foldE, mApplyF]
    by_cases hf : mFits im w = 0
    · simp only [hf, if_true]
      rw [show n + k + 1 = n + (k + 1) by omega]
      exact mApply_shift im n l (k + 1) (mWr c w)
    · simp only [hf, if_false]
theorem mApplyF_sizes {c im : Img} (h : c.map List.length = im.map List.length) : mApplyF c = mApplyF im := by
  funext i d w
  unfold mApplyF
  rw [mFits_sizes h]
theorem mApply_split {im : Img} (l : List Wr) (n : Nat) (hn : n ≤ l.length) : mApply im l = match mApply im (l.take n) with
    | .inl c => (match mApply c (l.drop n) with
      | .inl c' => .inl c'
      | .inr r => .inr (n + r.1, r.2))
    | .inr r => .inr r := by
  unfold mApply
  conv => lhs; rw [← List.take_append_drop n l]
  rw [foldE_app]
  cases h : foldE (mApplyF im) 0 im (l.take n) with
  | inl c =>
    have hs := mApply_sizes _ 0 im c rfl h
    simp only [mApplyF_sizes hs]
    rw [show 0 + (l.take n).length = n + 0 by simp; omega]
    exact mApply_shift im n _ 0 c
  | inr r => rfl
theorem mCheck_sizes {c im : Img} (h : c.map List.length = im.map List.length) : mCheck c = mCheck im := by
  unfold mCheck
  have : ∀ (x : Img), (x.map fun v => (v.length : Int)) = (x.map List.length).map fun n : Nat => (n : Int) := fun x => by rw [List.map_map]; rfl
  rw [this, this, h]

theorem f6_spec (im : Img) (l : List Wr) (cut : Int) (hcut : 0 ≤ cut ∧ cut ≤ 255) (Y : List YF) : callS ev fs 6 [zImg im, zWrs l, .sc (.int .u8 cut)] [] Y = some (.ret (zB true), []) := by
  refine callS_by f6_eq rfl ?_
  simp only [bodyOf, Go.Proofs.Try.f6, Option.getD_some]
  obtain ⟨k, rfl⟩ : ∃ k : Nat, cut = k := ⟨cut.toNat, by omega⟩
  have hw := f22_call
  have h19 := f19_spec im []
  have h28 := f28_spec l []
  simp only [go_sem] at hw h19 h28
  cases hf : mFew im
  · simp [go_sem, h19, hf, hw]
  cases hg : mFewW l
  · simp [go_sem, h19, h28, hf, hg, hw]
  obtain ⟨i1, i2⟩ := few_len hf
  obtain ⟨j1, j2⟩ := fewW hg
  have i3 : ∀ x ∈ im, x.length < 1000000000 := fun x hx => by have := i2 x hx; omega
  have hkw : IntKind.wrap .i64 (k : Int) = (k : Int) := wrap64 (by omega)
  have hrem : Int.tmod (k : Int) ((l.length : Int) + 1) = ((k % (l.length + 1) : Nat) : Int) := by
    rw [← Int.natCast_succ]
    exact (Int.ofNat_tmod k (l.length + 1)).symm
  have hn : k % (l.length + 1) ≤ l.length := by have := Nat.mod_lt k (show l.length + 1 > 0 by omega); omega
  generalize k % (l.length + 1) = n at hrem hn
  have hA := f31_spec im l (by omega) (by omega) (fun w hw => by have := j2 w hw; omega) []
  have hB := f31_spec im (l.take n) (by omega) (by simp; omega) (fun w hw => by have := j2 w (List.mem_of_mem_take hw); omega) []
  have hne : ¬ ((l.length : Int) + 1 = 0) := by omega
  have hll : l.length < 1000000000 := by omega
  have htk : ∀ (f : Wr → List AV), ((l.map f).drop n).take (l.length - n) = (l.map f).drop n := fun f => List.take_of_length_le (by simp)
  by_cases h0 : ¬ mCheck im = 0
  · simp only [go_sem, zApply, h0, if_false, List.map_take] at hA hB
    by_cases hn1 : 1 > n
    · simp [go_sem, h19, h28, hf, hg, hw, hkw, hrem, hn, hne, hA, hB, h0, hll, hn1]
    · simp [go_sem, h19, h28, hf, hg, hw, hkw, hrem, hn, hne, hA, hB, h0, hll, hn1, show 0 < n by omega]
  replace h0 : mCheck im = 0 := Decidable.not_not.1 h0
  have hsp := mApply_split (im := im) l n hn
  simp only [zApply, h0, if_true] at hA hB
  cases hr : mApply im (l.take n) with
  | inr r =>
    obtain ⟨i, e⟩ := r
    rw [hr] at hsp
    obtain ⟨he, _, hin⟩ := mApply_err _ 0 im i e hr
    have hin : i < n := by simp at hin; omega
    simp only [go_sem, hr, hsp, List.map_take] at hA hB
    by_cases hn1 : 1 > n
    · omega
    · simp [go_sem, h19, h28, hf, hg, hw, hkw, hrem, hn, hne, hA, hB, he, hin, hll, hn1]
  | inl c =>
    have hs := mApply_sizes _ 0 im c rfl hr
    have hcl := sizes_len hs
    have hc0 : mCheck c = 0 := by rw [mCheck_sizes hs, h0]
    rw [hr] at hsp
    have hC := f31_spec c (l.drop n) (by omega) (by simp; omega) (fun w hw => by have := j2 w (List.mem_of_mem_drop hw); omega) []
    simp only [zApply, hc0, if_true] at hC
    cases hr2 : mApply c (l.drop n) with
    | inr r =>
      obtain ⟨i, e⟩ := r
      simp only [hr2] at hsp
      obtain ⟨he, _, hin⟩ := mApply_err _ 0 c i e hr2
      have hin : i < l.length - n := by simpa using hin
      have h25 := f25_nil
      simp only [go_sem, hr, hr2, hsp, List.map_take, List.map_drop] at hA hB hC h25
      have hsub : IntKind.wrap .i64 ((l.length : Int) - n) = ((l.length - n : Nat) : Int) := by rw [wrap64 (by omega)]; omega
      simp [go_sem, h19, h28, hf, hg, hw, hkw, hrem, hn, hne, hA, hB, hC, htk, h25, he, hll, hsub, hin, show ¬ l.length ≤ i + n by omega]
    | inl c' =>
      simp only [hr2] at hsp
      have hs2 := mApply_sizes l 0 im c' rfl hsp
      have hcl2 := sizes_len hs2
      have h25 := f25_spec c' c' (by omega) (fun v hv => by have := sizes_mem hs2 i2 v hv; omega) []
      have hp1 : mPair im c' = 0 := by simp [mPair, h0, mCheck_sizes hs2, hs2]
      have hp2 : mPair c' im = 0 := by simp [mPair, h0, mCheck_sizes hs2, hs2]
      have h34a := f34_spec im c' (by omega) (by omega) []
      have h34b := f34_spec c' im (by omega) (by omega) []
      have h35 := f35_spec (List.zipWith mExt im c') (List.zipWith mExt im c') (by simp; omega) (fun x hx => by
        obtain ⟨i, hi, rfl⟩ := List.getElem_of_mem hx
        simp only [List.length_zipWith] at hi
        rw [List.getElem_zipWith]
        have := mExt_len im[i] c'[i]
        have := i2 im[i] (List.getElem_mem _)
        omega) []
      simp only [zDiffer, hp1, hp2, if_true, zip_sym hs2] at h34a h34b
      generalize List.zipWith mExt im c' = Z at h34a h34b h35
      simp only [go_sem, hr, hr2, hsp, List.map_take, List.map_drop, decide_true] at hA hB hC h25 h34a h34b h35
      simp [go_sem, h19, h28, hf, hg, hw, hkw, hrem, hn, hne, hA, hB, hC, htk, h25, hll, h34a, h34b, h35]
end Go.Proofs.Ytlphdiccffnckaa

/- Layer 7: Same, Patch. -/
namespace Go.Proofs.Ytlphdiccffnckaa
open Go Go.Abs

theorem f38_spec (a b : Vol) (hl : a.length < 1000000000) (Y : List YF) : callS ev fs 38 [zVol a, zVol b] [] Y = some (.ret (zB (decide (a = b))), []) := by
  refine callS_by f38_eq rfl ?_
  simp only [bodyOf, Go.Proofs.Try.f38, Option.getD_some]
  by_cases h1 : a.length ≠ b.length
  · have hm : ¬ a = b := fun h => h1 (by rw [h])
    simp [go_sem, h1, hm, Int.ofNat_inj]
  replace h1 : a.length = b.length := by omega
  obtain ⟨R, hR⟩ := fold_loop (E := ev) (C := callS ev fs) (Y := Y) (w := {}) (a := (loopsOf (bodyOf Go.Proofs.Try.f38))[0]?.getD .skip) (b := 0) 
    a (fun i (_ : Unit) x => if some x = b[i]? then .inl () else .inr ()) () (ex := fun _ => .ret)
    (fun i _ => Live [(0, zVol a), (1, zVol b), (12, zI a.length), (13, zI i)] [] 0) (fun _ => Live [] [] 0) (fun _ => Live [(4, zB false)] [] 0)
    (fun i s st hi h => by
      obtain ⟨tm, H, b⟩ := st
      simp only [bodyOf, Go.Proofs.Try.f38, Option.getD_some, loopsOf, rangesOf, List.nil_append, List.append_nil, List.cons_append, List.getElem?_cons_zero, List.getElem?_cons_succ]
      simp only [go_sem] at h
      obtain ⟨h0, h1', h12, h13, rfl, rfl⟩ := h
      have hib : i < b.length := by omega
      by_cases hp : a[i] = b[i] <;> simp [go_sem, h0, h1', h12, h13, hi, hib, hp, show i < 1000000000 by omega])
    (fun s st h => by
      obtain ⟨tm, H, b⟩ := st
      simp only [bodyOf, Go.Proofs.Try.f38, Option.getD_some, loopsOf, rangesOf, List.nil_append, List.append_nil, List.cons_append, List.getElem?_cons_zero, List.getElem?_cons_succ]
      simp only [go_sem] at h
      obtain ⟨h0, h1', h12, h13, rfl, rfl⟩ := h
      simp [go_sem, h12, h13])
    (fun _ h => by cases h)
  simp only [bodyOf, Go.Proofs.Try.f38, Option.getD_some, loopsOf, rangesOf, List.nil_append, List.append_nil, List.cons_append, List.getElem?_cons_zero, List.getElem?_cons_succ] at hR
  rw [foldE_eq b a 0 (by omega), List.drop_zero] at hR
  by_cases hab : a = b
  · simp [go_sem, hab] at hR
    simp [go_sem, hab, hR]
  · simp [go_sem, hab] at hR
    simp [go_sem, hab, h1, hR]

theorem f108_spec (a b : Img) (hl : a.length < 1000000000) (hx : ∀ x ∈ a, x.length < 1000000000) (Y : List YF) : callS ev fs 108 [zImg a, zImg b, .fn 38 []] [] Y = some (.ret (zB (decide (a = b))), []) := by
  refine callS_by f108_eq rfl ?_
  simp only [bodyOf, Go.Proofs.Try.f108, Option.getD_some]
  by_cases h1 : a.length ≠ b.length
  · have hm : ¬ a = b := fun h => h1 (by rw [h])
    simp [go_sem, h1, hm, Int.ofNat_inj]
  replace h1 : a.length = b.length := by omega
  obtain ⟨R, hR⟩ := fold_loop (E := ev) (C := callS ev fs) (Y := Y) (w := {}) (a := (loopsOf (bodyOf Go.Proofs.Try.f108))[0]?.getD .skip) (b := 0) 
    a (fun i (_ : Unit) x => if some x = b[i]? then .inl () else .inr ()) () (ex := fun _ => .ret)
    (fun i _ => Live [(1, zImg b), (2, .fn 38 []), (15, zImg a), (16, zI a.length), (17, zI i)] [] 0) (fun _ => Live [] [] 0) (fun _ => Live [(6, zB false)] [] 0)
    (fun i s st hi h => by
      obtain ⟨tm, H, b⟩ := st
      simp only [bodyOf, Go.Proofs.Try.f108, Option.getD_some, loopsOf, rangesOf, List.nil_append, List.append_nil, List.cons_append, List.getElem?_cons_zero, List.getElem?_cons_succ]
      simp only [go_sem] at h
      obtain ⟨h1', h2, h15, h16, h17, rfl, rfl⟩ := h
      have hib : i < b.length := by omega
      have hc := f38_spec a[i] b[i] (hx _ (List.getElem_mem hi)) []
      simp only [go_sem] at hc
      by_cases hp : a[i] = b[i]
      · simp [hp] at hc
        simp [go_sem, h1', h2, h15, h16, h17, hi, hib, hp, hc, show i < 1000000000 by omega]
      · simp [hp] at hc
        simp [go_sem, h1', h2, h15, h16, h17, hi, hib, hp, hc])
    (fun s st h => by
      obtain ⟨tm, H, b⟩ := st
      simp only [bodyOf, Go.Proofs.Try.f108, Option.getD_some, loopsOf, rangesOf, List.nil_append, List.append_nil, List.cons_append, List.getElem?_cons_zero, List.getElem?_cons_succ]
      simp only [go_sem] at h
      obtain ⟨h1', h2, h15, h16, h17, rfl, rfl⟩ := h
      simp [go_sem, h16, h17])
    (fun _ h => by cases h)
  simp only [bodyOf, Go.Proofs.Try.f108, Option.getD_some, loopsOf, rangesOf, List.nil_append, List.append_nil, List.cons_append, List.getElem?_cons_zero, List.getElem?_cons_succ] at hR
  rw [foldE_eq b a 0 (by omega), List.drop_zero] at hR
  by_cases hab : a = b
  · simp [go_sem, hab] at hR
    simp [go_sem, hab, hR]
  · simp [go_sem, hab] at hR
    simp [go_sem, hab, h1, hR]

theorem f42_spec (a b : Img) (hl : a.length < 1000000000) (hx : ∀ x ∈ a, x.length < 1000000000) (Y : List YF) : callS ev fs 42 [zImg a, zImg b] [] Y = some (.ret (zB (decide (a = b))), []) := by
  refine callS_by f42_eq rfl ?_
  simp only [bodyOf, Go.Proofs.Try.f42, Option.getD_some]
  have h := f108_spec a b hl hx []
  simp only [go_sem] at h
  simp [go_sem, h]

theorem f109_spec (a b : Vol) (hl : a.length < 1000000000) (Y : List YF) : callS ev fs 109 [zVol a, zVol b] [] Y = some (.ret (zB (decide (a = b))), []) := by
  refine callS_by f109_eq rfl ?_
  simp only [bodyOf, Go.Proofs.Try.f109, Option.getD_some]
  by_cases h1 : a.length ≠ b.length
  · have hm : ¬ a = b := fun h => h1 (by rw [h])
    simp [go_sem, h1, hm, Int.ofNat_inj]
  replace h1 : a.length = b.length := by omega
  obtain ⟨R, hR⟩ := fold_loop (E := ev) (C := callS ev fs) (Y := Y) (w := {}) (a := (loopsOf (bodyOf Go.Proofs.Try.f109))[0]?.getD .skip) (b := 0) 
    a (fun i (_ : Unit) x => if some x = b[i]? then .inl () else .inr ()) () (ex := fun _ => .ret)
    (fun i _ => Live [(0, zVol a), (1, zVol b), (5, zI i)] [] 0) (fun _ => Live [] [] 0) (fun _ => Live [(4, zB false)] [] 0)
    (fun i s st hi h => by
      obtain ⟨tm, H, b⟩ := st
      simp only [bodyOf, Go.Proofs.Try.f109, Option.getD_some, loopsOf, rangesOf, List.nil_append, List.append_nil, List.cons_append, List.getElem?_cons_zero, List.getElem?_cons_succ]
      simp only [go_sem] at h
      obtain ⟨h0, h1', h5, rfl, rfl⟩ := h
      have hib : i < b.length := by omega
      by_cases hp : a[i] = b[i] <;> simp [go_sem, h0, h1', h5, hi, hib, hp, show i < 1000000000 by omega])
    (fun s st h => by
      obtain ⟨tm, H, b⟩ := st
      simp only [bodyOf, Go.Proofs.Try.f109, Option.getD_some, loopsOf, rangesOf, List.nil_append, List.append_nil, List.cons_append, List.getElem?_cons_zero, List.getElem?_cons_succ]
      simp only [go_sem] at h
      obtain ⟨h0, h1', h5, rfl, rfl⟩ := h
      simp [go_sem, h0, h1', h5])
    (fun _ h => by cases h)
  simp only [bodyOf, Go.Proofs.Try.f109, Option.getD_some, loopsOf, rangesOf, List.nil_append, List.append_nil, List.cons_append, List.getElem?_cons_zero, List.getElem?_cons_succ] at hR
  rw [foldE_eq b a 0 (by omega), List.drop_zero] at hR
  by_cases hab : a = b
  · simp [go_sem, hab] at hR
    simp [go_sem, hab, hR]
  · simp [go_sem, hab] at hR
    simp [go_sem, hab, h1, hR]

theorem f43_eq : fs 43 = some (mkFn {} Go.Proofs.Try.f43 (bodyOf Go.Proofs.Try.f43)) := by kernel_rfl
/-- The same writes are found to be the same. -/
theorem f43_same (l : List Wr) (hl : l.length < 1000000000) (hx : ∀ w ∈ l, w.d.length < 1000000000) (Y : List YF) : callS ev fs 43 [zWrs l, zWrs l] [] Y = some (.ret (zB true), []) := by
  refine callS_by f43_eq rfl ?_
  simp only [bodyOf, Go.Proofs.Try.f43, Option.getD_some]
  obtain ⟨R, hR⟩ := fold_loop (E := ev) (C := callS ev fs) (Y := Y) (w := {}) (a := (loopsOf (bodyOf Go.Proofs.Try.f43))[0]?.getD .skip) (b := 0) 
    l (fun _ (_ : Unit) (_ : Wr) => .inl ()) () (ex := fun (r : Empty) => nomatch r)
    (fun i _ => Live [(0, zWrs l), (1, zWrs l), (5, zI i)] [] 0) (fun _ => Live [] [] 0) (fun r => nomatch r)
    (fun i s st hi h => by
      obtain ⟨tm, H, b⟩ := st
      simp only [bodyOf, Go.Proofs.Try.f43, Option.getD_some, loopsOf, rangesOf, List.nil_append, List.append_nil, List.cons_append, List.getElem?_cons_zero, List.getElem?_cons_succ]
      simp only [go_sem] at h
      obtain ⟨h0, h1', h5, rfl, rfl⟩ := h
      have hc := f109_spec l[i].d l[i].d (hx _ (List.getElem_mem hi)) []
      simp only [go_sem, decide_true] at hc
      simp [go_sem, h0, h1', h5, hi, hc, show i < 1000000000 by omega])
    (fun s st h => by
      obtain ⟨tm, H, b⟩ := st
      simp only [bodyOf, Go.Proofs.Try.f43, Option.getD_some, loopsOf, rangesOf, List.nil_append, List.append_nil, List.cons_append, List.getElem?_cons_zero, List.getElem?_cons_succ]
      simp only [go_sem] at h
      obtain ⟨h0, h1', h5, rfl, rfl⟩ := h
      simp [go_sem, h0, h1', h5])
    (fun r => nomatch r)
  simp only [bodyOf, Go.Proofs.Try.f43, Option.getD_some, loopsOf, rangesOf, List.nil_append, List.append_nil, List.cons_append, List.getElem?_cons_zero, List.getElem?_cons_succ] at hR
  rw [show (fun (_ : Nat) (_ : Unit) (_ : Wr) => (Sum.inl () : Unit ⊕ Empty)) = fun _ s x => Sum.inl ((fun (s : Unit) (_ : Wr) => s) s x) from rfl, foldE_fold] at hR
  simp [go_sem] at hR
  simp [go_sem, hR]
theorem f43_nil' : callN ev fs 10 43 [.sc (.slice none 0 0), .sc (.slice none 0 0)] [] [] = some (.ret (zB true), []) := by kernel_rfl
theorem f43_nil : callS ev fs 43 [.sc (.slice none 0 0), .sc (.slice none 0 0)] [] [] = some (.ret (zB true), []) := callS_iff.2 ⟨10, f43_nil'⟩
end Go.Proofs.Ytlphdiccffnckaa

/- Layer 7: Patch. -/
namespace Go.Proofs.Ytlphdiccffnckaa
open Go Go.Abs

def wrOf (i : Nat) (vb : Vol) (x : Ext) : Wr := ⟨i, x.s, (vb.drop x.s.toNat).take x.n.toNat⟩
def okExtAt (vb : Vol) (x : Ext) : Prop := 0 ≤ x.s ∧ 1 ≤ x.n ∧ x.s + x.n ≤ vb.length

theorem bareRet_vol (v : Vol) : bareRet [.own 1 8 (v.map secRow)] (.os 0 0 v.length 1) = some (.sl false 8 (v.map secRow)) := by
  unfold bareRet
  rw [if_neg (by simp [AV.pure]), freeze_os]
  simp [pureLL_map secRow_pure, AV.pure, take_map_len]
theorem f107_spec (i : Nat) (b : Img) (hi : i < b.length) (x : Ext) (hx : okExtAt b[i] x) (hbl : b[i].length < 100000000) (H : List Ent) (k9 k3 : Nat) (h9 : H[k9]? = some (.box [zI i])) (h3 : H[k3]? = some (.box [zImg b])) (Y : List YF) :
    callS ev fs 107 [.agg (extRow x), .bp k9 0, .bp k3 0] H Y = some (.ret (.agg (wrRow (wrOf i b[i] x))), H) := by
  obtain ⟨s, n⟩ := x
  obtain ⟨q1, q2, q3⟩ := hx
  simp only at q1 q2 q3
  obtain ⟨s, rfl⟩ : ∃ m : Nat, s = m := ⟨s.toNat, by omega⟩
  obtain ⟨n, rfl⟩ : ∃ m : Nat, n = m := ⟨n.toNat, by omega⟩
  have hlt9 := (List.getElem?_eq_some_iff.1 h9).1
  have hlt3 := (List.getElem?_eq_some_iff.1 h3).1
  have g9 := fun B => get_app (B := B) h9
  have g3 := fun B => get_app (B := B) h3
  have e9 := fun B hk => getE (g9 B) hk
  have e3 := fun B hk => getE (g3 B) hk
  have hc := f103_spec ((b[i].drop s).take n) [] (by
    intro h
    have := congrArg List.length h
    simp at this
    omega) (by simp; omega) []
  have hlen : ((b[i].drop s).take n).length = n := by simp; omega
  have hbr := bareRet_vol ((b[i].drop s).take n)
  rw [hlen] at hc hbr
  have hw := wrap64 (x := (s : Int) + n) (by omega)
  simp only [go_sem, List.map_take, List.map_drop, List.length_nil, List.nil_append] at hc hbr g9 g3 e9 e3
  refine callS_by f107_eq rfl ?_
  simp only [bodyOf, Go.Proofs.Try.f107, Option.getD_some]
  simp [go_sem, g9, g3, e9, e3, hi, hw, hc, hbr, wrOf, show ((s : Int) + n).toNat = s + n by omega, show s + n ≤ b[i].length by omega, show (0 : Int) ≤ (s : Int) + n by omega, show ¬ H.length + 1 < H.length by omega]

theorem take_at {H1 H : List Ent} {K : Nat} (h : H1.take K = H) (hK : K ≤ H1.length) (B : List Ent) (e : Ent) : ((H1 ++ B).set K e).take K = H := by
  rw [List.take_set, List.set_eq_of_length_le (List.length_take_le _ _), List.take_append_of_le_length hK, h]
theorem set_at {H1 : List Ent} {K : Nat} (hK : K < H1.length) (B : List Ent) (e : Ent) : ((H1 ++ B).set K e)[K]? = some e := by
  rw [List.getElem?_set_self (by simp; omega)]
theorem below_at {H1 H : List Ent} {K k : Nat} {e : Ent} (h : H1.take K = H) (hk : H[k]? = some e) (hlt : k < K) : H1[k]? = some e := by
  rw [← h, List.getElem?_take, if_pos hlt] at hk
  exact hk

theorem f106_spec (i : Nat) (b : Img) (hi : i < b.length) (l : List Ext) (hx : ∀ x ∈ l, okExtAt b[i] x) (hbl : b[i].length < 100000000) (hll : l.length < 100000000) (H : List Ent) (k9 k3 : Nat) (h9 : H[k9]? = some (.box [zI i])) (h3 : H[k3]? = some (.box [zImg b])) (Y : List YF) :
    callS ev fs 106 [zExts l, .fn 107 [.bp k9 0, .bp k3 0]] H Y = some (.ret (zWrs (l.map (wrOf i b[i]))), H) := by
  have hlt9 := (List.getElem?_eq_some_iff.1 h9).1
  have hlt3 := (List.getElem?_eq_some_iff.1 h3).1
  refine callS_by f106_eq rfl ?_
  simp only [bodyOf, Go.Proofs.Try.f106, Option.getD_some]
  have hroom : room l.length 40 = true := room_ok (by omega) (by omega) (by omega)
  obtain ⟨R, hR⟩ := fold_loop (E := ev) (C := callS ev fs) (Y := Y) (w := w106) (a := (loopsOf (bodyOf Go.Proofs.Try.f106))[0]?.getD .skip) (b := 0) 
    l (fun _ s x => .inl (s ++ [wrOf i b[i] x])) ([] : List Wr) (ex := fun (r : Empty) => nomatch r)
    (fun j s st => (s.length = j ∧ st.H[H.length]? = some (.own j 3 (s.map wrRow)) ∧ st.H.take H.length = H) ∧ LiveT [(1, .fn 107 [.bp k9 0, .bp k3 0]), (5, .os H.length 0 j j), (11, zExts l), (12, zI l.length), (13, zI j)] H.length st)
    (fun s st => (st.H[H.length]? = some (.own l.length 3 (s.map wrRow)) ∧ st.H.take H.length = H) ∧ LiveT [(5, .os H.length 0 l.length l.length)] H.length st) (fun r => nomatch r)
    (fun j s st hj h => by
      obtain ⟨⟨rfl, hK, hT⟩, h⟩ := h
      obtain ⟨tm, H1, b1⟩ := st
      simp only [bodyOf, Go.Proofs.Try.f106, Option.getD_some, loopsOf, rangesOf, List.nil_append, List.append_nil, List.cons_append, List.getElem?_cons_zero, List.getElem?_cons_succ]
      simp only [go_sem] at h
      simp only at hK hT
      obtain ⟨g1, g5, g11, g12, g13, rfl⟩ := h
      have hKl := (List.getElem?_eq_some_iff.1 hK).1
      have gK := fun B => get_app (B := B) hK
      have eK := fun B hk => getE (gK B) hk
      have h107 := fun B => f107_spec i b hi l[s.length] (hx _ (List.getElem_mem hj)) hbl (H1 ++ B) k9 k3 (get_app (below_at hT h9 hlt9)) (get_app (below_at hT h3 hlt3)) Y
      have hr : room (s.length + 1) 40 = true := room_ok (by omega) (by omega) (by omega)
      have t1 := take_at hT (Nat.le_of_lt hKl)
      have t2 := set_at hKl
      generalize wrOf i b[i] l[s.length] = w at h107 ⊢
      simp only [go_sem] at h107
      simp [go_sem, g1, g5, g11, g12, g13, hj, gK, eK, h107, hr, t1, t2, show ¬ H1.length < H.length by omega, show s.length < 1000000000 by omega])
    (fun s st h => by
      obtain ⟨⟨_, hK, hT⟩, h⟩ := h
      obtain ⟨tm, H, b⟩ := st
      simp only [bodyOf, Go.Proofs.Try.f106, Option.getD_some, loopsOf, rangesOf, List.nil_append, List.append_nil, List.cons_append, List.getElem?_cons_zero, List.getElem?_cons_succ]
      simp only [go_sem] at h
      obtain ⟨g1, g5, g11, g12, g13, rfl⟩ := h
      simp only at hK hT
      simp [go_sem, g5, g12, g13, hK, hT])
    (fun r => nomatch r)
  simp only [bodyOf, Go.Proofs.Try.f106, Option.getD_some, loopsOf, rangesOf, List.nil_append, List.append_nil, List.cons_append, List.getElem?_cons_zero, List.getElem?_cons_succ] at hR
  rw [foldE_map] at hR
  simp [go_sem] at hR
  simp [go_sem, freeze_os, hR, hroom, show l.length ≤ 1099511627776 by omega]

def patchF (b : Img) (i : Nat) (out : List Wr) (l : List Ext) : List Wr ⊕ Empty := .inl (out ++ l.map (wrOf i ((b[i]?).getD [])))
def mPatch (a b : Img) : List Wr := match foldE (patchF b) 0 [] (List.zipWith mExt a b) with
  | .inl s => s
def zPatch (a b : Img) : AV := if mPair a b = 0 then .tup [zWrs (mPatch a b), zI 0] else .tup [.sc (.slice none 0 0), zI (mPair a b)]

theorem mExt_ok {va vb : Vol} (h : va.length = vb.length) : ∀ x ∈ mExt va vb, okExtAt vb x := by
  unfold mExt
  cases hf : foldE (ρ := Empty) (diffF extStep vb) 0 [] va with
  | inl s =>
    have := (mExt_bound va vb va 0 [] s (by intro x hx; simp at hx) (by simp) hf).1
    intro x hx
    have := this x hx
    simp only [Nat.zero_add, h] at this
    exact this
  | inr r => exact nomatch r
theorem patch_split (a b : Img) : foldE (patchF b) 0 [] (List.zipWith mExt a b) = .inl (mPatch a b) := by
  unfold mPatch
  cases foldE (patchF b) 0 [] (List.zipWith mExt a b) with
  | inl s => rfl
  | inr r => exact nomatch r

theorem f40_spec (a b : Img) (ha : a.length < 100000000) (hb : b.length < 100000000) (Y : List YF) : callS ev fs 40 [zImg a, zImg b] [] Y = some (.ret (zPatch a b), []) := by
  refine callS_by f40_eq rfl ?_
  simp only [bodyOf, Go.Proofs.Try.f40, Option.getD_some]
  have h34 := f34_spec a b ha hb []
  by_cases h0 : ¬ mPair a b = 0
  · simp only [go_sem, zDiffer, h0, if_false] at h34
    simp [go_sem, h34, h0, zPatch]
  replace h0 : mPair a b = 0 := Decidable.not_not.1 h0
  obtain ⟨q1, q2, q3⟩ := mPair_zero h0
  have hal := (mCheck_zero q1).2.2
  have hl := sizes_len q3
  simp only [zDiffer, h0, if_true] at h34
  have hzl : (List.zipWith mExt a b).length = a.length := by simp; omega
  have hz : ∀ i (h1 : i < (List.zipWith mExt a b).length) (h2 : i < b.length), (∀ x ∈ (List.zipWith mExt a b)[i], okExtAt b[i] x) ∧ (List.zipWith mExt a b)[i].length ≤ 4096 ∧ b[i].length ≤ 4096 := fun i h1 h2 => by
    have h3 : i < a.length := by omega
    rw [List.getElem_zipWith]
    have h4 := sizes_get q3 h3 h2
    have h5 := (hal _ (List.getElem_mem h3)).2
    have h6 := mExt_len a[i] b[i]
    exact ⟨mExt_ok h4, by omega, by omega⟩
  have hps := patch_split a b
  generalize mPatch a b = W at hps
  have hW : zPatch a b = .tup [zWrs W, zI 0] := by
    have : mPatch a b = W := by unfold mPatch; rw [hps]
    unfold zPatch
    rw [if_pos h0, this]
  rw [hW]
  generalize List.zipWith mExt a b = Z at h34 hzl hz hps
  have hZl : Z.length ≤ 8 := by have := (mCheck_zero q1).2.1; omega
  obtain ⟨R, hR⟩ := fold_loop (E := ev) (C := callS ev fs) (Y := Y) (w := w40) (a := (loopsOf (bodyOf Go.Proofs.Try.f40))[0]?.getD .skip) (b := 0) 
    Z (patchF b) ([] : List Wr) (ex := fun (r : Empty) => nomatch r)
    (fun i out st => (out.length ≤ i * 4096 ∧ st.H[0]? = some (.box [zImg b]) ∧ st.H[1]? = some (.own i 3 (out.map wrRow))) ∧ LiveT [(3, .bp 0 0), (8, .os 1 0 out.length i), (20, zExtss Z), (21, zI Z.length), (22, zI i)] 0 st)
    (fun out st => (st.H[1]? = some (.own Z.length 3 (out.map wrRow))) ∧ LiveT [(8, .os 1 0 out.length Z.length)] 0 st) (fun r => nomatch r)
    (fun i out st hi h => by
      obtain ⟨⟨ho, hH0, hH1⟩, h⟩ := h
      obtain ⟨tm, H, b⟩ := st
      simp only [bodyOf, Go.Proofs.Try.f40, Option.getD_some, loopsOf, rangesOf, List.nil_append, List.append_nil, List.cons_append, List.getElem?_cons_zero, List.getElem?_cons_succ]
      simp only [go_sem] at h
      obtain ⟨g3, g8, g20, g21, g22, rfl⟩ := h
      simp only at hH0 hH1
      have hib : i < b.length := by omega
      obtain ⟨z1, z2, z3⟩ := hz i hi hib
      have hl1 := (List.getElem?_eq_some_iff.1 hH1).1
      have k0 := fun B => get_app (B := B) hH0
      have k1 := fun B => get_app (B := B) hH1
      have e0 := fun B hk => getE (k0 B) hk
      have e1 := fun B hk => getE (k1 B) hk
      have hlast : ∀ e, (H ++ [e])[H.length]? = some e := fun e => by simp
      have h106 := f106_spec i b hib Z[i] z1 (by omega) (by omega) (H ++ [.box [zI i]]) H.length 0 (hlast _) (k0 _) Y
      have hr : room (out.length + Z[i].length) 40 = true := room_ok (by omega) (by omega) (by omega)
      have hpf : patchF b i out Z[i] = .inl (out ++ Z[i].map (wrOf i b[i])) := by simp [patchF, hib]
      have hln : (out ++ Z[i].map (wrOf i b[i])).length ≤ (i + 1) * 4096 := by simp; omega
      rw [hpf]
      have hml : (Z[i].map (wrOf i b[i])).length = Z[i].length := by simp
      rw [← hml] at hr
      generalize Z[i].map (wrOf i b[i]) = new at h106 hr hln ⊢
      have hse : ∀ B e, ((H ++ B).set 1 e)[0]? = some (.box [zImg b]) := fun B e => by rw [List.getElem?_set_ne (by omega)]; exact k0 B
      have hs1 : ∀ B e, ((H ++ B).set 1 e)[1]? = some e := fun B e => List.getElem?_set_self (by simp; omega)
      have htk : (List.map wrRow out).take out.length = List.map wrRow out := List.take_of_length_le (by simp)
      simp only [go_sem, List.length_append] at h106 hse hln
      simp [go_sem, g3, g8, g20, g21, g22, hi, hib, k0, k1, e0, e1, h106, hr, hse, hs1, hln, htk, show i < 1000000000 by omega])
    (fun out st h => by
      obtain ⟨⟨_, _, hH1⟩, h⟩ := h
      obtain ⟨tm, H, b⟩ := st
      simp only [bodyOf, Go.Proofs.Try.f40, Option.getD_some, loopsOf, rangesOf, List.nil_append, List.append_nil, List.cons_append, List.getElem?_cons_zero, List.getElem?_cons_succ]
      simp only [go_sem] at h
      obtain ⟨g3, g8, g20, g21, g22, rfl⟩ := h
      simp only at hH1
      simp [go_sem, g8, g21, g22, hH1])
    (fun r => nomatch r)
  rw [hps] at hR
  simp only [bodyOf, Go.Proofs.Try.f40, Option.getD_some, loopsOf, rangesOf, List.nil_append, List.append_nil, List.cons_append, List.getElem?_cons_zero, List.getElem?_cons_succ] at hR
  simp [go_sem] at hR
  simp only [go_sem] at h34
  simp [go_sem, freeze_os, h34, hR]
  done
end Go.Proofs.Ytlphdiccffnckaa

/- Layer 7: Patch of the reference; the law ImageDiffers. -/
namespace Go.Proofs.Ytlphdiccffnckaa
open Go Go.Abs

theorem flno : (Fl.non == Fl.own) = false := rfl
theorem f41_spec (a b : Img) (ha : a.length < 100000000) (hb : b.length < 100000000) (Y : List YF) : callS ev fs 41 [zImg a, zImg b] [] Y = some (.ret (zPatch a b), []) := by
  refine callS_by f41_eq rfl ?_
  simp only [bodyOf, Go.Proofs.Try.f41, Option.getD_some]
  have h39 := f39_spec a b ha hb []
  by_cases h0 : ¬ mPair a b = 0
  · simp only [go_sem, zDiffer, h0, if_false] at h39
    simp [go_sem, h39, h0, zPatch]
  replace h0 : mPair a b = 0 := Decidable.not_not.1 h0
  obtain ⟨q1, q2, q3⟩ := mPair_zero h0
  have hal := (mCheck_zero q1).2.2
  have hl := sizes_len q3
  simp only [zDiffer, h0, if_true] at h39
  have hzl : (List.zipWith mExt a b).length = a.length := by simp; omega
  have hz : ∀ i (h1 : i < (List.zipWith mExt a b).length) (h2 : i < b.length), (∀ x ∈ (List.zipWith mExt a b)[i], okExtAt b[i] x) ∧ (List.zipWith mExt a b)[i].length ≤ 4096 ∧ b[i].length ≤ 4096 := fun i h1 h2 => by
    have h3 : i < a.length := by omega
    rw [List.getElem_zipWith]
    have h4 := sizes_get q3 h3 h2
    have h5 := (hal _ (List.getElem_mem h3)).2
    have h6 := mExt_len a[i] b[i]
    exact ⟨mExt_ok h4, by omega, by omega⟩
  have hps := patch_split a b
  generalize mPatch a b = W at hps
  have hW : zPatch a b = .tup [zWrs W, zI 0] := by
    have : mPatch a b = W := by unfold mPatch; rw [hps]
    unfold zPatch
    rw [if_pos h0, this]
  rw [hW]
  generalize List.zipWith mExt a b = Z at h39 hzl hz hps
  have hZl : Z.length ≤ 8 := by have := (mCheck_zero q1).2.1; omega
  obtain ⟨R, hR⟩ := fold_loop (E := ev) (C := callS ev fs) (Y := Y) (w := w41) (a := (loopsOf (bodyOf Go.Proofs.Try.f41))[0]?.getD .skip) (b := 0) 
    Z (patchF b) ([] : List Wr) (ex := fun (r : Empty) => nomatch r)
    (fun i out st => (out.length ≤ i * 4096 ∧ st.H[0]? = some (.own out.length 3 (out.map wrRow))) ∧ LiveT [(1, zImg b), (6, zExtss Z), (8, .os 0 0 out.length out.length), (9, zI i)] 0 st)
    (fun out st => (st.H[0]? = some (.own out.length 3 (out.map wrRow))) ∧ LiveT [(8, .os 0 0 out.length out.length)] 0 st) (fun r => nomatch r)
    (fun i out st hi h => by
      obtain ⟨⟨ho, hH0⟩, h⟩ := h
      obtain ⟨tm, H, b⟩ := st
      simp only [bodyOf, Go.Proofs.Try.f41, Option.getD_some, loopsOf, rangesOf, List.nil_append, List.append_nil, List.cons_append, List.getElem?_cons_zero, List.getElem?_cons_succ]
      simp only [go_sem] at h
      obtain ⟨g1, g6, g8, g9, rfl⟩ := h
      simp only at hH0
      have hib : i < b.length := by omega
      obtain ⟨z1, z2, z3⟩ := hz i hi hib
      obtain ⟨R2, hR2⟩ := fold_loop (E := ev) (C := callS ev fs) (Y := Y) (w := w41) (a := (loopsOf (bodyOf Go.Proofs.Try.f41))[1]?.getD .skip) (b := 2) 
        Z[i] (fun _ o x => .inl (o ++ [wrOf i b[i] x])) out (ex := fun (r : Empty) => nomatch r)
        (fun j o st => (o.length = out.length + j ∧ st.H[0]? = some (.own o.length 3 (o.map wrRow))) ∧ LiveT [(1, zImg b), (6, zExtss Z), (8, .os 0 0 o.length o.length), (9, zI i), (10, zI j)] 0 st)
        (fun o st => (o.length = out.length + Z[i].length ∧ st.H[0]? = some (.own o.length 3 (o.map wrRow))) ∧ LiveT [(1, zImg b), (6, zExtss Z), (8, .os 0 0 o.length o.length), (9, zI i)] 0 st) (fun r => nomatch r)
        (fun j o st hj h => by
          obtain ⟨⟨hol, hH⟩, h⟩ := h
          obtain ⟨tm, H, b⟩ := st
          simp only [bodyOf, Go.Proofs.Try.f41, Option.getD_some, loopsOf, rangesOf, List.nil_append, List.append_nil, List.cons_append, List.getElem?_cons_zero, List.getElem?_cons_succ]
          simp only [go_sem] at h
          obtain ⟨p1, p6, p8, p9, p10, rfl⟩ := h
          simp only at hH
          have hx := z1 _ (List.getElem_mem hj)
          have hl1 := (List.getElem?_eq_some_iff.1 hH).1
          have k0 := fun B => get_app (B := B) hH
          have e0 := fun B hk => getE (k0 B) hk
          have hr : room (o.length + 1) 40 = true := room_ok (by omega) (by omega) (by omega)
          have hs0 : ∀ B e, ((H ++ B).set 0 e)[0]? = some e := fun B e => List.getElem?_set_self (by simp; omega)
          have htk : (List.map wrRow o).take o.length = List.map wrRow o := List.take_of_length_le (by simp)
          rw [hol] at hr htk
          generalize hxe : Z[i][j] = x at hx
          obtain ⟨s, n⟩ := x
          obtain ⟨x1, x2, x3⟩ := hx
          simp only at x1 x2 x3
          obtain ⟨s, rfl⟩ : ∃ m : Nat, s = m := ⟨s.toNat, by omega⟩
          obtain ⟨n, rfl⟩ : ∃ m : Nat, n = m := ⟨n.toNat, by omega⟩
          have hw := wrap64 (x := (s : Int) + n) (by omega)
          have hr2 : room n 8 = true := room_ok (by omega) (by omega) (by omega)
          have hmin : min n (b[i].length - s) = n := by omega
          simp [go_sem, p1, p6, p8, p9, p10, hi, hib, hj, hxe, k0, e0, hw, hr, hr2, hmin, hs0, htk, hol, wrOf, flno, show ((s : Int) + n).toNat = s + n by omega, show s + n ≤ b[i].length by omega, show (0 : Int) ≤ (s : Int) + n by omega, show j < 1000000000 by omega]
          omega)
        (fun o st h => by
          obtain ⟨⟨hol, hH⟩, h⟩ := h
          obtain ⟨tm, H, b⟩ := st
          simp only [bodyOf, Go.Proofs.Try.f41, Option.getD_some, loopsOf, rangesOf, List.nil_append, List.append_nil, List.cons_append, List.getElem?_cons_zero, List.getElem?_cons_succ]
          simp only [go_sem] at h
          obtain ⟨p1, p6, p8, p9, p10, rfl⟩ := h
          simp only at hH
          simp [go_sem, p1, p6, p8, p9, p10, hi, hH, hol])
        (fun r => nomatch r)
      simp only [bodyOf, Go.Proofs.Try.f41, Option.getD_some, loopsOf, rangesOf, List.nil_append, List.append_nil, List.cons_append, List.getElem?_cons_zero, List.getElem?_cons_succ] at hR2
      rw [foldE_map] at hR2
      have hpf : patchF b i out Z[i] = .inl (out ++ Z[i].map (wrOf i b[i])) := by simp [patchF, hib]
      rw [hpf]
      simp [go_sem] at hR2
      simp [go_sem, g1, g6, g8, g9, hi, hH0, hR2, show i < 1000000000 by omega, show out.length + Z[i].length ≤ (i + 1) * 4096 by omega])
    (fun out st h => by
      obtain ⟨⟨_, hH0⟩, h⟩ := h
      obtain ⟨tm, H, b⟩ := st
      simp only [bodyOf, Go.Proofs.Try.f41, Option.getD_some, loopsOf, rangesOf, List.nil_append, List.append_nil, List.cons_append, List.getElem?_cons_zero, List.getElem?_cons_succ]
      simp only [go_sem] at h
      obtain ⟨g1, g6, g8, g9, rfl⟩ := h
      simp only at hH0
      simp [go_sem, g6, g8, g9, hH0])
    (fun r => nomatch r)
  rw [hps] at hR
  simp only [bodyOf, Go.Proofs.Try.f41, Option.getD_some, loopsOf, rangesOf, List.nil_append, List.append_nil, List.cons_append, List.getElem?_cons_zero, List.getElem?_cons_succ] at hR
  simp [go_sem] at hR
  simp only [go_sem] at h39
  simp [go_sem, freeze_os, h39, hR]

theorem mPatch_bound (b : Img) : ∀ (Z : List (List Ext)) (i : Nat) (out W : List Wr) (m : Nat), (∀ l ∈ Z, l.length ≤ m) → foldE (patchF b) i out Z = .inl W → W.length ≤ out.length + Z.length * m
  | [], i, out, W, m, _, h => by
    simp only [foldE, Sum.inl.injEq] at h
    rw [← h]; simp
  | l :: Z, i, out, W, m, hm, h => by
    simp only [foldE, patchF] at h
    have := mPatch_bound b Z (i + 1) _ W m (fun l hl => hm l (List.mem_cons_of_mem _ hl)) h
    have := hm l (List.mem_cons_self ..)
    simp only [List.length_append, List.length_map] at *
    rw [List.length_cons, Nat.add_mul]
    omega
theorem mPatch_data (b : Img) (m : Nat) (hb : ∀ v ∈ b, v.length ≤ m) : ∀ (Z : List (List Ext)) (i : Nat) (out W : List Wr), (∀ w ∈ out, w.d.length ≤ m) → foldE (patchF b) i out Z = .inl W → ∀ w ∈ W, w.d.length ≤ m
  | [], i, out, W, ho, h => by
    simp only [foldE, Sum.inl.injEq] at h
    rw [← h]; exact ho
  | l :: Z, i, out, W, ho, h => by
    simp only [foldE, patchF] at h
    refine mPatch_data b m hb Z (i + 1) _ W (fun w hw => ?_) h
    rcases List.mem_append.1 hw with hw | hw
    · exact ho w hw
    · obtain ⟨x, _, rfl⟩ := List.mem_map.1 hw
      have : ((b[i]?).getD []).length ≤ m := by
        cases hv : b[i]? with
        | none => simp
        | some v => exact hb v (List.mem_of_getElem? hv)
      simp [wrOf]
      omega

theorem f8_spec (a b : Img) (Y : List YF) : callS ev fs 8 [zImg a, zImg b] [] Y = some (.ret (zB true), []) := by
  refine callS_by f8_eq rfl ?_
  simp only [bodyOf, Go.Proofs.Try.f8, Option.getD_some]
  have hw := f22_call
  have h19a := f19_spec a []
  have h19b := f19_spec b []
  simp only [go_sem] at hw h19a h19b
  cases hf : mFew a
  · simp [go_sem, h19a, hf, hw]
  cases hg : mFew b
  · simp [go_sem, h19a, h19b, hf, hg, hw]
  obtain ⟨i1, i2⟩ := few_len hf
  obtain ⟨j1, j2⟩ := few_len hg
  have i3 : ∀ x ∈ a, x.length < 1000000000 := fun x hx => by have := i2 x hx; omega
  have h34 := f34_spec a b (by omega) (by omega) []
  have h39 := f39_spec a b (by omega) (by omega) []
  have h40 := f40_spec a b (by omega) (by omega) []
  have h41 := f41_spec a b (by omega) (by omega) []
  have h42 := f42_spec a b (by omega) i3 []
  have h25 := f25_spec a b (by omega) i3 []
  by_cases h0 : ¬ mPair a b = 0
  · have h35 := f35_nil
    have h43 := f43_nil
    simp only [go_sem, zDiffer, zPatch, h0, if_false] at h34 h39 h40 h41 h42 h25 h35 h43
    simp [go_sem, h19a, h19b, hf, hg, hw, h34, h39, h40, h41, h42, h25, h35, h43]
  replace h0 : mPair a b = 0 := Decidable.not_not.1 h0
  have hZ : ∀ x ∈ List.zipWith mExt a b, x.length ≤ 24 := fun x hx => by
    obtain ⟨i, hi, rfl⟩ := List.getElem_of_mem hx
    simp only [List.length_zipWith] at hi
    rw [List.getElem_zipWith]
    have := mExt_len a[i] b[i]
    have := i2 a[i] (List.getElem_mem _)
    omega
  have hps := patch_split a b
  have hW1 := mPatch_bound b _ 0 [] _ 24 hZ hps
  have hW2 := mPatch_data b 24 j2 _ 0 [] _ (fun w hw => by simp at hw) hps
  have hZl : (List.zipWith mExt a b).length ≤ 9 := by simp; omega
  have h35 := f35_spec (List.zipWith mExt a b) (List.zipWith mExt a b) (by omega) (fun x hx => by have := hZ x hx; omega) []
  have h43 := f43_same (mPatch a b) (by simp only [List.length_nil, Nat.zero_add] at hW1; have : (List.zipWith mExt a b).length * 24 ≤ 9 * 24 := Nat.mul_le_mul_right _ hZl; omega) (fun w hw => by have := hW2 w hw; omega) []
  simp only [zDiffer, zPatch, h0, if_true] at h34 h39 h40 h41
  generalize mPatch a b = W at h40 h41 h43
  generalize List.zipWith mExt a b = Z at h34 h39 h35
  simp only [go_sem, decide_true] at h34 h39 h40 h41 h42 h25 h35 h43
  simp [go_sem, h19a, h19b, hf, hg, hw, h34, h39, h40, h41, h42, h25, h35, h43]
end Go.Proofs.Ytlphdiccffnckaa

/- Calls that are asked twice where an empty slice comes in. -/
namespace Go.Abs

section
variable {H : List Ent} {t : Nat} {T : TT} {C : CF} {Y : List YF}
theorem cln_empty {g z : Nat} {f : Bool} {caps : List AV} : aCallFn C Y .cln H (.fn g caps) [.sl f z []] =
    if AV.pureL caps = true then if (askEmpty C g (.nsl true z :: caps) && askEmpty C g (.nsl false z :: caps)) = true then some (.val (.sl false z []) H) else none else none := rfl
@[go_sem] theorem bareCall_eq {g : Nat} {vs : List AV} : bareCall C g vs H = match C g vs [] [] with
    | some (.ret v, H1) => match bareRet H1 v with
      | some v' => some (.val v' H)
      | none => none
    | some (.pan v, _) => if AV.pure v = true then some (.pan v H) else none
    | none => none := rfl
@[go_sem] theorem cln_sc {g : Nat} {v : Value} {caps : List AV} : aCallFn C Y .cln H (.fn g caps) [.sc v] = if AV.pureL caps = true then bareCall C g (.sc v :: caps) H else none := rfl
@[go_sem] theorem fl_non_own : (Fl.non == Fl.own) = false := rfl
@[go_sem] theorem fl_own_own : (Fl.own == Fl.own) = true := rfl
theorem ask_true {g : Nat} {vs : List AV} {v v' : AV} {H1 : List Ent} (h : C g vs [] [] = some (.ret v, H1)) (h2 : bareRet H1 v = some v') (h3 : emptySl v' = true) : askEmpty C g vs = true := by
  simp only [askEmpty, h, h2, h3]
section app
variable {B : List Ent}
@[go_sem] theorem app_get0 : (H ++ B)[H.length]? = B[0]? := by rw [List.getElem?_append_right (Nat.le_refl _), Nat.sub_self]
@[go_sem] theorem app_getk (k : Nat) : (H ++ B)[H.length + k]? = B[k]? := by rw [List.getElem?_append_right (Nat.le_add_right _ _), Nat.add_sub_cancel_left]
@[go_sem] theorem app_set0 (e : Ent) : (H ++ B).set H.length e = H ++ B.set 0 e := by rw [List.set_append_right _ _ (Nat.le_refl _), Nat.sub_self]
@[go_sem] theorem app_setk (e : Ent) (k : Nat) : (H ++ B).set (H.length + k) e = H ++ B.set k e := by rw [List.set_append_right _ _ (Nat.le_add_right _ _), Nat.add_sub_cancel_left]
@[go_sem] theorem app_take0 : (H ++ B).take H.length = H := by rw [List.take_append_of_le_length (Nat.le_refl _), List.take_length]
@[go_sem] theorem app_takek (k : Nat) : (H ++ B).take (H.length + k) = H ++ B.take k := by rw [List.take_append, List.take_of_length_le (Nat.le_add_right _ _), Nat.add_sub_cancel_left]
@[go_sem] theorem app_drop0 : (H ++ B).drop H.length = B := by rw [List.drop_append_of_le_length (Nat.le_refl _), List.drop_length, List.nil_append]
@[go_sem] theorem add_lt_no (n k : Nat) : (n + k < n) = False := eq_false (by omega)
@[go_sem] theorem ent_under_own {n vr z : Nat} {xs : List (List AV)} : Ent.under n (.own vr z xs) = AV.underLL n xs := rfl
@[go_sem] theorem ent_under_box {n : Nat} {cs : List AV} : Ent.under n (.box cs) = AV.underL n cs := rfl
@[go_sem] theorem underLL_nil {n : Nat} : AV.underLL n [] = true := rfl
@[go_sem] theorem underLL_cons {n : Nat} {x : List AV} {xs : List (List AV)} : AV.underLL n (x :: xs) = (AV.underL n x && AV.underLL n xs) := rfl
theorem underLL_map {α : Type} {n : Nat} {f : α → List AV} (h : ∀ a, AV.pureL (f a) = true) (l : List α) : AV.underLL n (l.map f) = true := pureLL_under n _ (pureLL_map h l)
theorem underLL_maps {α : Type} {n : Nat} {f : α → AV} (h : ∀ a, AV.pure (f a) = true) (l : List α) : AV.underLL n (l.map fun a => [f a]) = true := underLL_map (fun a => by simp [AV.pureL, h]) l
@[go_sem] theorem ghost_weak {s z : Nat} {st : St} : ghost (.weak s z) st = some (if isNilSl (st.tm.get s) = true then { st with tm := (s, .sl false z []) :: st.tm } else st) := rfl
@[go_sem] theorem isNil_sl {f : Bool} {z : Nat} {xs : List (List AV)} : isNilSl (.sl f z xs) = false := rfl
@[go_sem] theorem isNil_os {k off len vr : Nat} : isNilSl (.os k off len vr) = false := rfl
@[go_sem] theorem ghost_freeze {s : Nat} {st : St} : ghost (.freeze s) st = match st.tm.get s with
    | .os k off len vr =>
      if st.b ≤ k then
        match snap st.H (.os k off len vr) with
        | some (p, z, xs) => if p = true then some { st with tm := (s, .sl false z xs) :: st.tm, H := st.H.set k .dead } else none
        | none => none
      else none
    | _ => none := rfl
end app
/-- A clone, by value: from what it answers for nil, for an empty slice that is not nil, and for the others. -/
theorem clone_by {g z : Nat} (h1 : ∀ n, ∃ v H1 v', C g [.nsl n z] [] [] = some (.ret v, H1) ∧ bareRet H1 v = some v' ∧ emptySl v' = true)
    {xs : List (List AV)} (h2 : xs ≠ [] → ∃ v H1, C g [.sl false z xs] [] [] = some (.ret v, H1) ∧ bareRet H1 v = some (.sl false z xs)) (H : List Ent) (Y : List YF) :
    aCallFn C Y .cln H (.fn g []) [.sl false z xs] = some (.val (.sl false z xs) H) := by
  cases xs with
  | nil =>
    obtain ⟨v1, H1, v1', a1, a2, a3⟩ := h1 true
    obtain ⟨v2, H2, v2', b1, b2, b3⟩ := h1 false
    rw [cln_empty]
    simp only [ask_true a1 a2 a3, ask_true b1 b2 b3]
    rfl
  | cons x xs =>
    obtain ⟨v, H1, q1, q2⟩ := h2 (by simp)
    rw [call_cln_cons]
    simp only [AV.pureL, if_true, bareCall_eq, q1, q2]
end
end Go.Abs

/- Layer 54: three images that are compared; what is chosen from them. -/
namespace Go.Proofs.Ytlphdiccffnckaa
open Go Go.Abs
theorem f72_eq : fs 72 = some (mkFn w72 Go.Proofs.Try.f72 (bodyOf Go.Proofs.Try.f72)) := by kernel_rfl
theorem f74_eq : fs 74 = some (mkFn {} Go.Proofs.Try.f74 (bodyOf Go.Proofs.Try.f74)) := by kernel_rfl
theorem f161_eq : fs 161 = some (mkFn {} Go.Proofs.Try.f161 (bodyOf Go.Proofs.Try.f161)) := by kernel_rfl
theorem f162_eq : fs 162 = some (mkFn w162 Go.Proofs.Try.f162 (bodyOf Go.Proofs.Try.f162)) := by kernel_rfl
theorem f163_eq : fs 163 = some (mkFn {} Go.Proofs.Try.f163 (bodyOf Go.Proofs.Try.f163)) := by kernel_rfl
theorem f164_eq : fs 164 = some (mkFn {} Go.Proofs.Try.f164 (bodyOf Go.Proofs.Try.f164)) := by kernel_rfl
theorem f167_eq : fs 167 = some (mkFn {} Go.Proofs.Try.f167 (bodyOf Go.Proofs.Try.f167)) := by kernel_rfl
theorem f211_eq : fs 211 = some (mkFn {} Go.Proofs.Try.f211 (bodyOf Go.Proofs.Try.f211)) := by kernel_rfl

theorem f211_spec (a b : Vol) (Y : List YF) : callS ev fs 211 [zVol a, zVol b] [] Y = some (.ret (zB (decide (a.length = b.length))), []) := by
  refine callS_by f211_eq rfl ?_
  simp only [bodyOf, Go.Proofs.Try.f211, Option.getD_some]
  by_cases h : a.length = b.length
  · simp [go_sem, h]
  · simp [go_sem, h, Int.ofNat_inj]

theorem foldE_len (b : Img) : ∀ (a : Img) (i : Nat), a.length + i = b.length → foldE (ρ := Unit) (fun i (_ : Unit) x => if some x.length = (b[i]?).map List.length then .inl () else .inr ()) i () a = if a.map List.length = (b.drop i).map List.length then .inl () else .inr ()
  | [], i, h => by simp at h; simp [foldE, List.drop_of_length_le (show b.length ≤ i by omega)]
  | x :: a, i, h => by
    have hlt : i < b.length := by simp at h; omega
    simp only [foldE, List.getElem?_eq_getElem hlt, Option.map_some]
    rw [List.drop_eq_getElem_cons hlt]
    by_cases hx : x.length = b[i].length
    · simp only [hx, if_true, List.map_cons]
      rw [foldE_len b a (i + 1) (by simp at h; omega)]
      simp
    · simp only [Option.some.injEq, hx, if_false, List.map_cons, List.cons.injEq, false_and]

theorem f108_len (a b : Img) (hl : a.length < 1000000000) (Y : List YF) : callS ev fs 108 [zImg a, zImg b, .fn 211 []] [] Y = some (.ret (zB (decide (a.map List.length = b.map List.length))), []) := by
  refine callS_by f108_eq rfl ?_
  simp only [bodyOf, Go.Proofs.Try.f108, Option.getD_some]
  by_cases h1 : a.length ≠ b.length
  · have hm : ¬ a.map List.length = b.map List.length := fun h => h1 (sizes_len h)
    simp [go_sem, h1, hm, Int.ofNat_inj]
  replace h1 : a.length = b.length := by omega
  obtain ⟨R, hR⟩ := fold_loop (E := ev) (C := callS ev fs) (Y := Y) (w := {}) (a := (loopsOf (bodyOf Go.Proofs.Try.f108))[0]?.getD .skip) (b := 0) 
    a (fun i (_ : Unit) x => if some x.length = (b[i]?).map List.length then .inl () else .inr ()) () (ex := fun _ => .ret)
    (fun i _ => Live [(1, zImg b), (2, .fn 211 []), (15, zImg a), (16, zI a.length), (17, zI i)] [] 0) (fun _ => Live [] [] 0) (fun _ => Live [(6, zB false)] [] 0)
    (fun i s st hi h => by
      obtain ⟨tm, H, b⟩ := st
      simp only [bodyOf, Go.Proofs.Try.f108, Option.getD_some, loopsOf, rangesOf, List.nil_append, List.append_nil, List.cons_append, List.getElem?_cons_zero, List.getElem?_cons_succ]
      simp only [go_sem] at h
      obtain ⟨h1', h2, h15, h16, h17, rfl, rfl⟩ := h
      have hib : i < b.length := by omega
      have hc := f211_spec a[i] b[i] []
      simp only [go_sem] at hc
      by_cases hp : a[i].length = b[i].length
      · simp [hp] at hc
        simp [go_sem, h1', h2, h15, h16, h17, hi, hib, hp, hc, show i < 1000000000 by omega]
      · simp [hp] at hc
        simp [go_sem, h1', h2, h15, h16, h17, hi, hib, hp, hc])
    (fun s st h => by
      obtain ⟨tm, H, b⟩ := st
      simp only [bodyOf, Go.Proofs.Try.f108, Option.getD_some, loopsOf, rangesOf, List.nil_append, List.append_nil, List.cons_append, List.getElem?_cons_zero, List.getElem?_cons_succ]
      simp only [go_sem] at h
      obtain ⟨h1', h2, h15, h16, h17, rfl, rfl⟩ := h
      simp [go_sem, h16, h17])
    (fun _ h => by cases h)
  simp only [bodyOf, Go.Proofs.Try.f108, Option.getD_some, loopsOf, rangesOf, List.nil_append, List.append_nil, List.cons_append, List.getElem?_cons_zero, List.getElem?_cons_succ] at hR
  rw [foldE_len b a 0 (by omega), List.drop_zero] at hR
  by_cases hab : a.map List.length = b.map List.length
  · simp [go_sem, hab] at hR
    simp [go_sem, hab, h1, hR]
  · simp [go_sem, hab] at hR
    simp [go_sem, hab, h1, hR]

/-- What three images that are compared are told. -/
def mThree (a b c : Img) : Int := if mCheck a = 0 then if mCheck b = 0 then if mCheck c = 0 then (if a.map List.length = c.map List.length ∧ b.map List.length = c.map List.length then 0 else 22) else mCheck c else mCheck b else mCheck a

theorem f161_spec (a b c : Img) (ha : a.length < 100000000) (hb : b.length < 100000000) (hc : c.length < 100000000) (Y : List YF) :
    callS ev fs 161 [.sl false 1 [[zImg a], [zImg b], [zImg c]]] [] Y = some (.ret (zI (mThree a b c)), []) := by
  refine callS_by f161_eq rfl ?_
  simp only [bodyOf, Go.Proofs.Try.f161, Option.getD_some]
  have h26 : ∀ x ∈ [a, b, c], callS ev fs 26 [zImg x] [] [] = some (.ret (zI (mCheck x)), []) := fun x hx => f26_spec x (by
    simp at hx
    rcases hx with rfl | rfl | rfl <;> assumption) []
  have h108 : ∀ x ∈ [b, c], callS ev fs 108 [zImg x, zImg a, .fn 211 []] [] [] = some (.ret (zB (decide (x.map List.length = a.map List.length))), []) := fun x hx => f108_len x a (by
    simp at hx
    rcases hx with rfl | rfl <;> omega) []
  obtain ⟨R, hR⟩ := fold_loop (E := ev) (C := callS ev fs) (Y := Y) (w := {}) (a := (loopsOf (bodyOf Go.Proofs.Try.f161))[0]?.getD .skip) (b := 0) 
    [a, b, c] (fun _ (_ : Unit) x => if mCheck x = 0 then .inl () else .inr (mCheck x)) () (ex := fun _ => .ret)
    (fun i _ => Live [(0, .sl false 1 ([a, b, c].map fun x => [zImg x])), (8, .sl false 1 ([a, b, c].map fun x => [zImg x])), (9, zI 3), (10, zI i)] [] 0) (fun _ => Live [(0, .sl false 1 ([a, b, c].map fun x => [zImg x]))] [] 0) (fun e => Live [(2, zI e)] [] 0)
    (fun i s st hi h => by
      obtain ⟨tm, H, b⟩ := st
      simp only [bodyOf, Go.Proofs.Try.f161, Option.getD_some, loopsOf, rangesOf, List.nil_append, List.append_nil, List.cons_append, List.getElem?_cons_zero, List.getElem?_cons_succ]
      simp only [go_sem] at h
      obtain ⟨h0, h8, h9, h10, rfl, rfl⟩ := h
      have hc := h26 [a, b, c][i] (List.getElem_mem hi)
      have hi2 : i < 3 := by simpa using hi
      have hget : ([a, b, c].map fun x => [zImg x])[i]? = some [zImg [a, b, c][i]] := by
        rw [List.getElem?_map, List.getElem?_eq_getElem hi]; rfl
      generalize [a, b, c][i] = x at hc hget ⊢
      simp only [go_sem] at hc hget h0 h8
      generalize hrows : (List.map _ [a, b, c]) = rows at hget h0 h8 ⊢
      by_cases h0' : mCheck x = 0
      · simp [go_sem, h0, h8, h9, h10, hget, hc, h0', hi2, show i < 1000000000 by omega]
        rw [← hrows]
        rfl
      · simp [go_sem, h0, h8, h9, h10, hget, hc, h0', hi2])
    (fun s st h => by
      obtain ⟨tm, H, b⟩ := st
      simp only [bodyOf, Go.Proofs.Try.f161, Option.getD_some, loopsOf, rangesOf, List.nil_append, List.append_nil, List.cons_append, List.getElem?_cons_zero, List.getElem?_cons_succ]
      simp only [go_sem] at h
      obtain ⟨h0, h8, h9, h10, rfl, rfl⟩ := h
      simp [go_sem, h0, h8, h9, h10])
    (fun _ h => by cases h)
  obtain ⟨S, hS⟩ := fold_loop (E := ev) (C := callS ev fs) (Y := Y) (w := {}) (a := (loopsOf (bodyOf Go.Proofs.Try.f161))[1]?.getD .skip) (b := 2) 
    [b, c] (fun _ (_ : Unit) x => if x.map List.length = a.map List.length then .inl () else .inr ()) () (ex := fun _ => .ret)
    (fun i _ => Live [(0, .sl false 1 ([a, b, c].map fun x => [zImg x])), (21, .sl false 1 ([b, c].map fun x => [zImg x])), (22, zI 2), (23, zI i)] [] 0) (fun _ => Live [] [] 0) (fun e => Live [(2, zI 22)] [] 0)
    (fun i s st hi h => by
      obtain ⟨tm, H, b⟩ := st
      simp only [bodyOf, Go.Proofs.Try.f161, Option.getD_some, loopsOf, rangesOf, List.nil_append, List.append_nil, List.cons_append, List.getElem?_cons_zero, List.getElem?_cons_succ]
      simp only [go_sem] at h
      obtain ⟨h0, h21, h22, h23, rfl, rfl⟩ := h
      have hc := h108 [b, c][i] (List.getElem_mem hi)
      have hi2 : i < 2 := by simpa using hi
      have hget : ([b, c].map fun x => [zImg x])[i]? = some [zImg [b, c][i]] := by
        rw [List.getElem?_map, List.getElem?_eq_getElem hi]; rfl
      have hget0 : ([a, b, c].map fun x => [zImg x])[0]? = some [zImg a] := rfl
      generalize [b, c][i] = x at hc hget ⊢
      simp only [go_sem] at hc hget h0 h21 hget0
      generalize hrows : (List.map _ [b, c]) = rows at hget h21 ⊢
      generalize hrows2 : (List.map _ [a, b, c]) = rows2 at hget0 h0 ⊢
      by_cases h0' : x.map List.length = a.map List.length
      · simp only [h0', decide_true] at hc
        simp [go_sem, h0, h21, h22, h23, hget, hget0, hc, h0', hi2, show i < 1000000000 by omega]
        rw [← hrows, ← hrows2]
        first | exact ⟨rfl, rfl⟩ | rfl
      · simp only [h0', decide_false] at hc
        simp [go_sem, h0, h21, h22, h23, hget, hget0, hc, h0', hi2])
    (fun s st h => by
      obtain ⟨tm, H, b⟩ := st
      simp only [bodyOf, Go.Proofs.Try.f161, Option.getD_some, loopsOf, rangesOf, List.nil_append, List.append_nil, List.cons_append, List.getElem?_cons_zero, List.getElem?_cons_succ]
      simp only [go_sem] at h
      obtain ⟨h0, h21, h22, h23, rfl, rfl⟩ := h
      simp [go_sem, h0, h21, h22, h23])
    (fun _ h => by cases h)
  simp only [bodyOf, Go.Proofs.Try.f161, Option.getD_some, loopsOf, rangesOf, List.nil_append, List.append_nil, List.cons_append, List.getElem?_cons_zero, List.getElem?_cons_succ] at hR hS
  simp only [foldE] at hR hS
  by_cases h0 : ¬ mCheck a = 0
  · simp [go_sem, h0] at hR
    simp [go_sem, hR, mThree, h0]
  replace h0 : mCheck a = 0 := Decidable.not_not.1 h0
  by_cases h1 : ¬ mCheck b = 0
  · simp [go_sem, h0, h1] at hR
    simp [go_sem, hR, mThree, h0, h1]
  replace h1 : mCheck b = 0 := Decidable.not_not.1 h1
  by_cases h2 : ¬ mCheck c = 0
  · simp [go_sem, h0, h1, h2] at hR
    simp [go_sem, hR, mThree, h0, h1, h2]
  replace h2 : mCheck c = 0 := Decidable.not_not.1 h2
  simp [go_sem, h0, h1, h2] at hR
  by_cases s1 : ¬ b.map List.length = a.map List.length
  · have : ¬ (a.map List.length = c.map List.length ∧ b.map List.length = c.map List.length) := fun h => s1 (h.2.trans h.1.symm)
    simp [go_sem, s1] at hS
    simp [go_sem, hR, hS, mThree, h0, h1, h2, this]
  replace s1 := Decidable.not_not.1 s1
  by_cases s2 : ¬ c.map List.length = a.map List.length
  · have : ¬ (a.map List.length = c.map List.length ∧ b.map List.length = c.map List.length) := fun h => s2 h.1.symm
    simp [go_sem, s1, s2] at hS
    simp [go_sem, hR, hS, mThree, h0, h1, h2, this]
  replace s2 := Decidable.not_not.1 s2
  have : a.map List.length = c.map List.length ∧ b.map List.length = c.map List.length := ⟨s2.symm, s1.trans s2.symm⟩
  simp [go_sem, s1, s2] at hS
  simp [go_sem, hR, hS, mThree, h0, h1, h2, this]
end Go.Proofs.Ytlphdiccffnckaa

/- Layer 54: what is chosen from three images, sector by sector; Conflicts, Merge. -/
namespace Go.Proofs.Ytlphdiccffnckaa
open Go Go.Abs

def sOne : Sec := ⟨[1, 0, 0, 0, 0, 0, 0, 0], rfl⟩
def sZero : Sec := ⟨[0, 0, 0, 0, 0, 0, 0, 0], rfl⟩
def inConf (x y z : Sec) : Bool := decide (¬ x = z) && decide (¬ y = z) && decide (¬ x = y)
def mark (x y z : Sec) : Sec := if inConf x y z = true then sOne else sZero
def merge1 (x y z : Sec) : Sec := if x = z then y else x
def blank (_ _ _ : Sec) : Sec := sZero

theorem app_at {H : List Ent} {k : Nat} {e : Ent} (h : H[k]? = some e) (B : List Ent) : (H ++ B)[k]? = some e := get_app h
@[go_sem] theorem secRow_app_drop (s : Sec) (l : List AV) : (secRow s ++ l).drop 8 = l := by
  rw [← secRow_len s, List.drop_left]
@[go_sem] theorem secRow_app_take (s : Sec) (l : List AV) : (secRow s ++ l).take 8 = secRow s := by
  rw [← secRow_len s, List.take_left]

theorem f163_spec (x y z : Sec) (H : List Ent) (k9 k10 : Nat) (h9 : H[k9]? = some (.box (secRow sOne))) (h10 : H[k10]? = some (.box (secRow sZero))) (Y : List YF) :
    callS ev fs 163 [.agg (secRow x), .agg (secRow y), .agg (secRow z), .bp k9 0, .bp k10 0] H Y = some (.ret (.agg (secRow (mark x y z))), H) := by
  refine callS_by f163_eq rfl ?_
  simp only [bodyOf, Go.Proofs.Try.f163, Option.getD_some]
  have g9 := fun B => app_at h9 B
  have g10 := fun B => app_at h10 B
  have l9 := (List.getElem?_eq_some_iff.1 h9).1
  have l10 := (List.getElem?_eq_some_iff.1 h10).1
  by_cases c1 : x = z
  · subst c1
    simp [go_sem, g9, g10, mark, inConf]
  by_cases c2 : y = z
  · subst c2
    simp [go_sem, g9, g10, c1, mark, inConf]
  by_cases c3 : x = y
  · subst c3
    simp [go_sem, g9, g10, c1, mark, inConf]
  simp [go_sem, g9, g10, c1, c2, c3, mark, inConf]

theorem f164_spec (x y z : Sec) (H : List Ent) (k10 : Nat) (h10 : H[k10]? = some (.box (secRow sZero))) (Y : List YF) :
    callS ev fs 164 [.agg (secRow x), .agg (secRow y), .agg (secRow z), .bp k10 0] H Y = some (.ret (.agg (secRow (blank x y z))), H) := by
  refine callS_by f164_eq rfl ?_
  simp only [bodyOf, Go.Proofs.Try.f164, Option.getD_some]
  have g10 := fun B => app_at h10 B
  simp [go_sem, g10, blank]

theorem f167_spec (x y z : Sec) (H : List Ent) (Y : List YF) :
    callS ev fs 167 [.agg (secRow x), .agg (secRow y), .agg (secRow z)] H Y = some (.ret (.agg (secRow (merge1 x y z))), H) := by
  refine callS_by f167_eq rfl ?_
  simp only [bodyOf, Go.Proofs.Try.f167, Option.getD_some]
  by_cases c1 : x = z
  · subst c1
    simp [go_sem, merge1]
  · simp [go_sem, c1, merge1]
end Go.Proofs.Ytlphdiccffnckaa

/- Layer 54: the image that is chosen; Conflicts, Merge. -/
namespace Go.Proofs.Ytlphdiccffnckaa
open Go Go.Abs

def pick3 (q : Sec → Sec → Sec → Sec) (va vb vc : Vol) : Vol := List.zipWith (fun z p => q p.1 p.2 z) vc (va.zip vb)
def choose (q : Sec → Sec → Sec → Sec) (a b c : Img) : Img := List.zipWith (fun vc p => pick3 q p.1 p.2 vc) c (a.zip b)
theorem pick3_len {q : Sec → Sec → Sec → Sec} {va vb vc : Vol} (h1 : va.length = vc.length) (h2 : vb.length = vc.length) : (pick3 q va vb vc).length = vc.length := by
  simp [pick3, List.length_zip, h1, h2]
theorem choose_sizes {q : Sec → Sec → Sec → Sec} {a b c : Img} (h1 : a.map List.length = c.map List.length) (h2 : b.map List.length = c.map List.length) : (choose q a b c).map List.length = c.map List.length := by
  have l1 := sizes_len h1
  have l2 := sizes_len h2
  refine List.ext_getElem (by simp [choose, l1, l2]) fun i q1 q2 => ?_
  simp only [List.getElem_map, choose, List.getElem_zipWith, List.getElem_zip]
  simp only [List.length_map] at q2
  exact pick3_len (sizes_get h1 (by omega) q2) (sizes_get h2 (by omega) q2)

theorem f162_spec (q : Sec → Sec → Sec → Sec) (g : Nat) (caps : List AV) (a b c : Img) (h1 : a.map List.length = c.map List.length) (h2 : b.map List.length = c.map List.length) (hl : c.length < 100000000) (hv : ∀ v ∈ c, v.length < 100000000)
    (H : List Ent) (Y : List YF) (hu : ∀ n, H.length ≤ n → AV.underL n caps = true)
    (hg : ∀ x y z B, callS ev fs g ([.agg (secRow x), .agg (secRow y), .agg (secRow z)] ++ caps) (H ++ B) Y = some (.ret (.agg (secRow (q x y z))), H ++ B)) :
    callS ev fs 162 [zImg a, zImg b, zImg c, .fn g caps] H Y = some (.ret (zImg (choose q a b c)), H) := by
  have la := sizes_len h1
  have lb := sizes_len h2
  have hu1 := hu (H.length + 1) (by omega)
  have hu2 : ∀ s : Img, AV.underLL (H.length + 1) (s.map fun v => [AV.sl false 8 (v.map secRow)]) = true := underLL_maps (fun _ => rfl)
  refine callS_by f162_eq rfl ?_
  simp only [bodyOf, Go.Proofs.Try.f162, Option.getD_some]
  obtain ⟨R, hR⟩ := fold_loop (E := ev) (C := callS ev fs) (Y := Y) (w := w162) (a := (loopsOf (bodyOf Go.Proofs.Try.f162))[0]?.getD .skip) (b := 0) 
    c (fun i s vc => .inl (s ++ [(fun vc p => pick3 q p.1 p.2 vc) vc (((a.zip b)[i]?).getD ([], []))])) ([] : Img) (ex := fun (r : Empty) => nomatch r)
    (fun i s st => (s.length = i ∧ ∃ B, st.H = H ++ .own i 1 (s.map fun v => [zVol v]) :: B) ∧ LiveT [(0, zImg a), (1, zImg b), (2, zImg c), (3, .fn g caps), (9, .os H.length 0 i i), (13, zImg c), (14, zI c.length), (15, zI i)] H.length st)
    (fun s => Live [(9, .os H.length 0 c.length c.length)] (H ++ [.own c.length 1 (s.map fun v => [zVol v])]) H.length) (fun r => nomatch r)
    (fun i s st hi h => by
      obtain ⟨⟨hs, B, hH⟩, h⟩ := h
      subst hs
      have hia : s.length < a.length := by omega
      have hib : s.length < b.length := by omega
      have sa := sizes_get h1 hia hi
      have sb := sizes_get h2 hib hi
      have hvi := hv _ (List.getElem_mem hi)
      generalize hk : s.length = i at *
      have hzip : ((a.zip b)[i]?).getD ([], []) = (a[i], b[i]) := by
        rw [List.getElem?_eq_getElem (by simp [List.length_zip]; omega)]
        simp
      rw [hzip]
      obtain ⟨S, hS⟩ := fold_loop (E := ev) (C := callS ev fs) (Y := Y) (w := w162) (a := (loopsOf (bodyOf Go.Proofs.Try.f162))[1]?.getD .skip) (b := 2) 
        (c[i]) (fun k t z => .inl (t ++ [(fun z p => q p.1 p.2 z) z (((a[i].zip b[i])[k]?).getD (sZero, sZero))])) ([] : Vol) (ex := fun (r : Empty) => nomatch r)
        (fun k t st => t.length = k ∧ Live [(0, zImg a), (1, zImg b), (2, zImg c), (3, .fn g caps), (9, .os H.length 0 i i), (10, zI i), (11, .os (H.length + 1) 0 k k), (13, zImg c), (14, zI c.length), (15, zI i), (22, zI (c[i]).length), (23, zI k)] (H ++ [.own i 1 (s.map fun v => [zVol v]), .own k 8 (t.map secRow)]) H.length st)
        (fun t => Live [(0, zImg a), (1, zImg b), (2, zImg c), (3, .fn g caps), (9, .os H.length 0 i i), (10, zI i), (11, .os (H.length + 1) 0 (c[i]).length (c[i]).length), (13, zImg c), (14, zI c.length), (15, zI i)] (H ++ [.own i 1 (s.map fun v => [zVol v]), .own (c[i]).length 8 (t.map secRow)]) H.length) (fun r => nomatch r)
        (fun k t st hj h => by
          obtain ⟨rfl, h⟩ := h
          obtain ⟨tm, H, b⟩ := st
          simp only [bodyOf, Go.Proofs.Try.f162, Option.getD_some, loopsOf, rangesOf, List.nil_append, List.append_nil, List.cons_append, List.getElem?_cons_zero, List.getElem?_cons_succ]
          simp only [go_sem] at h
          obtain ⟨g0, g1, g2, g3, g9, g10, g11, g13, g14, g15, g22, g23, rfl, rfl⟩ := h
          have hka : t.length < a[i].length := by omega
          have hkb : t.length < b[i].length := by omega
          have hq := fun B => hg a[i][t.length] b[i][t.length] c[i][t.length] B
          have hr : room (t.length + 1) 8 = true := room_ok (by omega) (by omega) (by omega)
          have hz : ((a[i].zip b[i])[t.length]?).getD (sZero, sZero) = (a[i][t.length], b[i][t.length]) := by
            rw [List.getElem?_eq_getElem (by simp [List.length_zip]; omega)]
            simp
          simp only [List.cons_append, List.nil_append] at hq
          rw [hz]
          simp [go_sem, g0, g1, g2, g3, g9, g10, g11, g13, g14, g15, g22, g23, hi, hia, hib, hj, hka, hkb, hq, hr, show i < 1000000000 by omega, show t.length < 1000000000 by omega])
        (fun t st h => by
          obtain ⟨ht, h⟩ := h
          obtain ⟨tm, H, b⟩ := st
          simp only [bodyOf, Go.Proofs.Try.f162, Option.getD_some, loopsOf, rangesOf, List.nil_append, List.append_nil, List.cons_append, List.getElem?_cons_zero, List.getElem?_cons_succ]
          simp only [go_sem] at h
          obtain ⟨g0, g1, g2, g3, g9, g10, g11, g13, g14, g15, g22, g23, rfl, rfl⟩ := h
          simp [go_sem, g0, g1, g2, g3, g9, g10, g11, g13, g14, g15, g22, g23])
        (fun r => nomatch r)
      simp only [bodyOf, Go.Proofs.Try.f162, Option.getD_some, loopsOf, rangesOf, List.nil_append, List.append_nil, List.cons_append, List.getElem?_cons_zero, List.getElem?_cons_succ] at hS
      have hfz : foldE (ρ := Empty) (fun k t z => .inl (t ++ [(fun z p => q p.1 p.2 z) z (((a[i].zip b[i])[k]?).getD (sZero, sZero))])) 0 [] c[i] = .inl (pick3 q a[i] b[i] c[i]) := by
        rw [foldE_zip (ρ := Empty) (fun z p => q p.1 p.2 z) (sZero, sZero) (a[i].zip b[i]) c[i] 0 [] (by simp [List.length_zip]; omega)]
        rfl
      have hpl := pick3_len (q := q) sa sb
      simp only at hfz
      rw [hfz] at hS
      generalize hpk : pick3 q a[i] b[i] c[i] = pk at *
      have htk : (pk.map secRow).take c[i].length = pk.map secRow := by rw [← hpl]; exact take_map_len _ _
      have htk3 : (s.map fun v => [AV.sl false 8 (v.map secRow)]).take i = s.map fun v => [AV.sl false 8 (v.map secRow)] := by rw [← hk]; exact take_map_len _ _
      have hpp : AV.pureLL (pk.map secRow) = true := pureLL_map secRow_pure _
      simp [go_sem] at hS
      obtain ⟨tm, HH, bb⟩ := st
      simp only [bodyOf, Go.Proofs.Try.f162, Option.getD_some, loopsOf, rangesOf, List.nil_append, List.append_nil, List.cons_append, List.getElem?_cons_zero, List.getElem?_cons_succ]
      simp only [go_sem] at h
      simp only at hH
      subst hH
      obtain ⟨g0, g1, g2, g3, g9, g13, g14, g15, rfl⟩ := h
      have hr : room (i + 1) 24 = true := room_ok (by omega) (by omega) (by omega)
      simp [go_sem, g0, g1, g2, g3, g9, g13, g14, g15, hi, hu1, hu2, hS, hr, hk, htk, htk3, hpk, hpp, hpl, show i < 1000000000 by omega])
    (fun s st h => by
      obtain ⟨⟨hs, B, hH⟩, h⟩ := h
      obtain ⟨tm, HH, bb⟩ := st
      simp only [bodyOf, Go.Proofs.Try.f162, Option.getD_some, loopsOf, rangesOf, List.nil_append, List.append_nil, List.cons_append, List.getElem?_cons_zero, List.getElem?_cons_succ]
      simp only [go_sem] at h
      simp only at hH
      subst hH
      obtain ⟨g0, g1, g2, g3, g9, g13, g14, g15, rfl⟩ := h
      simp [go_sem, g0, g1, g2, g3, g9, g13, g14, g15, hu1, hu2])
    (fun r => nomatch r)
  simp only [bodyOf, Go.Proofs.Try.f162, Option.getD_some, loopsOf, rangesOf, List.nil_append, List.append_nil, List.cons_append, List.getElem?_cons_zero, List.getElem?_cons_succ] at hR
  have hfz : foldE (ρ := Empty) (fun i s vc => .inl (s ++ [(fun vc p => pick3 q p.1 p.2 vc) vc (((a.zip b)[i]?).getD ([], []))])) 0 [] c = .inl (choose q a b c) := by
    rw [foldE_zip (ρ := Empty) (fun vc p => pick3 q p.1 p.2 vc) ([], []) (a.zip b) c 0 [] (by simp [List.length_zip]; omega)]
    rfl
  have hcl := sizes_len (choose_sizes (q := q) h1 h2)
  simp only at hfz
  rw [hfz] at hR
  generalize choose q a b c = ch at *
  have htk : (ch.map fun v => [AV.sl false 8 (v.map secRow)]).take c.length = ch.map fun v => [AV.sl false 8 (v.map secRow)] := by rw [← hcl]; exact take_map_len _ _
  simp [go_sem] at hR
  simp [go_sem, freeze_os, hcl, htk, hR]

theorem alike_zero {a b c : Img} (h : mThree a b c = 0) : mCheck a = 0 ∧ mCheck b = 0 ∧ mCheck c = 0 ∧ a.map List.length = c.map List.length ∧ b.map List.length = c.map List.length := by
  unfold mThree at h
  split at h
  · rename_i h1
    split at h
    · rename_i h2
      split at h
      · rename_i h3
        split at h
        · rename_i h4
          exact ⟨h1, h2, h3, h4.1, h4.2⟩
        · cases h
      · rename_i h3; exact absurd h h3
    · rename_i h2; exact absurd h h2
  · rename_i h1; exact absurd h h1

def conf (a b c : Img) : List (List Ext) := List.zipWith mExt (choose mark a b c) (choose blank a b c)
def zConf (a b c : Img) : AV := if mThree a b c = 0 then zExtss (conf a b c) else .sc (.slice none 0 0)

theorem f72_spec (a b c : Img) (ha : a.length < 100000000) (hb : b.length < 100000000) (hc : c.length < 100000000) (Y : List YF) :
    callS ev fs 72 [zImg a, zImg b, zImg c] [] Y = some (.ret (.tup [zConf a b c, zI (mThree a b c)]), []) := by
  refine callS_by f72_eq rfl ?_
  simp only [bodyOf, Go.Proofs.Try.f72, Option.getD_some]
  have h161 := f161_spec a b c ha hb hc []
  by_cases h0 : ¬ mThree a b c = 0
  · simp only [go_sem] at h161
    simp [go_sem, slLit, Go.Abs.chunks, h161, h0, zConf]
  replace h0 : mThree a b c = 0 := Decidable.not_not.1 h0
  obtain ⟨q1, q2, q3, s1, s2⟩ := alike_zero h0
  obtain ⟨r1, r2, r3⟩ := mCheck_zero q3
  have hv : ∀ v ∈ c, v.length < 100000000 := fun v h => by have := (r3 v h).2; omega
  have e9 : ([.box (secRow sOne), .box (secRow sZero)] : List Ent)[0]? = some (.box (secRow sOne)) := rfl
  have e10 : ([.box (secRow sOne), .box (secRow sZero)] : List Ent)[1]? = some (.box (secRow sZero)) := rfl
  have h1 := f162_spec mark 163 [.bp 0 0, .bp 1 0] a b c s1 s2 hc hv [.box (secRow sOne), .box (secRow sZero)] Y (fun n hn => by simp at hn; simp [AV.underL, AV.under]; omega)
    (fun x y z B => f163_spec x y z _ 0 1 (app_at e9 B) (app_at e10 B) Y)
  have h2 := f162_spec blank 164 [.bp 1 0] a b c s1 s2 hc hv [.box (secRow sOne), .box (secRow sZero)] Y (fun n hn => by simp at hn; simp [AV.underL, AV.under]; omega)
    (fun x y z B => f164_spec x y z _ 1 (app_at e10 B) Y)
  have sz1 := choose_sizes (q := mark) s1 s2
  have sz2 := choose_sizes (q := blank) s1 s2
  have h34 := f34_spec (choose mark a b c) (choose blank a b c) (by rw [sizes_len sz1]; exact hc) (by rw [sizes_len sz2]; exact hc) []
  have hp : mPair (choose mark a b c) (choose blank a b c) = 0 := by
    unfold mPair
    rw [mCheck_sizes sz1, mCheck_sizes sz2, q3, sz1, sz2]
    simp
  simp only [zDiffer, hp, if_true] at h34
  simp only [zConf, h0, if_true, conf]
  generalize choose mark a b c = m1 at *
  generalize choose blank a b c = m2 at *
  generalize List.zipWith mExt m1 m2 = es at *
  simp only [go_sem, h0, secRow, sOne, sZero, List.map_cons, List.map_nil] at h161 h1 h2 h34
  simp [go_sem, slLit, Go.Abs.chunks, h161, h1, h2, h34]

def zMerge (a b c : Img) : AV := if mThree a b c = 0 then zImg (choose merge1 a b c) else .sc (.slice none 0 0)
theorem zConf_pure (a b c : Img) : AV.pure (zConf a b c) = true := by unfold zConf; split <;> rfl
theorem zMerge_pure (a b c : Img) : AV.pure (zMerge a b c) = true := by unfold zMerge; split <;> rfl
theorem f74_spec (a b c : Img) (ha : a.length < 100000000) (hb : b.length < 100000000) (hc : c.length < 100000000) (Y : List YF) :
    callS ev fs 74 [zImg a, zImg b, zImg c] [] Y = some (.ret (.tup [zMerge a b c, zConf a b c, zI (mThree a b c)]), []) := by
  refine callS_by f74_eq rfl ?_
  simp only [bodyOf, Go.Proofs.Try.f74, Option.getD_some]
  have h72 := f72_spec a b c ha hb hc []
  have hcp := zConf_pure a b c
  generalize hzc : zConf a b c = zc at *
  by_cases h0 : ¬ mThree a b c = 0
  · simp only [zConf, h0, if_false] at hzc
    subst hzc
    simp only [go_sem] at h72
    simp [go_sem, h72, h0, zMerge]
  replace h0 : mThree a b c = 0 := Decidable.not_not.1 h0
  obtain ⟨q1, q2, q3, s1, s2⟩ := alike_zero h0
  obtain ⟨r1, r2, r3⟩ := mCheck_zero q3
  have hv : ∀ v ∈ c, v.length < 100000000 := fun v h => by have := (r3 v h).2; omega
  have h1 := f162_spec merge1 167 [] a b c s1 s2 hc hv [] [] (fun n hn => rfl) (fun x y z B => f167_spec x y z _ [])
  simp only [zMerge, h0, if_true]
  generalize choose merge1 a b c = m1 at *
  simp only [go_sem, h0] at h72 h1
  simp [go_sem, h72, h1, hcp]
end Go.Proofs.Ytlphdiccffnckaa

/- Layer 54: Conflicts and Merge of the reference. -/
namespace Go.Proofs.Ytlphdiccffnckaa
open Go Go.Abs
theorem f73_eq : fs 73 = some (mkFn w73 Go.Proofs.Try.f73 (bodyOf Go.Proofs.Try.f73)) := by kernel_rfl
theorem f75_eq : fs 75 = some (mkFn w75 Go.Proofs.Try.f75 (bodyOf Go.Proofs.Try.f75)) := by kernel_rfl
theorem f76_eq : fs 76 = some (mkFn {} Go.Proofs.Try.f76 (bodyOf Go.Proofs.Try.f76)) := by kernel_rfl
theorem f165_eq : fs 165 = some (mkFn {} Go.Proofs.Try.f165 (bodyOf Go.Proofs.Try.f165)) := by kernel_rfl
theorem f166_eq : fs 166 = some (mkFn w166 Go.Proofs.Try.f166 (bodyOf Go.Proofs.Try.f166)) := by kernel_rfl
theorem f168_eq : fs 168 = some (mkFn {} Go.Proofs.Try.f168 (bodyOf Go.Proofs.Try.f168)) := by kernel_rfl

theorem f168_spec (a b : List Ext) (hl : a.length < 1000000000) (Y : List YF) : callS ev fs 168 [zExts a, zExts b] [] Y = some (.ret (zB (decide (a = b))), []) := by
  refine callS_by f168_eq rfl ?_
  simp only [bodyOf, Go.Proofs.Try.f168, Option.getD_some]
  by_cases h1 : a.length ≠ b.length
  · have hm : ¬ a = b := fun h => h1 (by rw [h])
    simp [go_sem, h1, hm, Int.ofNat_inj]
  replace h1 : a.length = b.length := by omega
  obtain ⟨R, hR⟩ := fold_loop (E := ev) (C := callS ev fs) (Y := Y) (w := {}) (a := (loopsOf (bodyOf Go.Proofs.Try.f168))[0]?.getD .skip) (b := 0) 
    a (fun i (_ : Unit) x => if some x = b[i]? then .inl () else .inr ()) () (ex := fun _ => .ret)
    (fun i _ => Live [(0, zExts a), (1, zExts b), (5, zI i)] [] 0) (fun _ => Live [] [] 0) (fun _ => Live [(4, zB false)] [] 0)
    (fun i s st hi h => by
      obtain ⟨tm, H, b⟩ := st
      simp only [bodyOf, Go.Proofs.Try.f168, Option.getD_some, loopsOf, rangesOf, List.nil_append, List.append_nil, List.cons_append, List.getElem?_cons_zero, List.getElem?_cons_succ]
      simp only [go_sem] at h
      obtain ⟨h0, h1', h5, rfl, rfl⟩ := h
      have hib : i < b.length := by omega
      by_cases hp : a[i] = b[i]
      · simp [go_sem, h0, h1', h5, hi, hib, hp, aggEq, scEq, show i < 1000000000 by omega]
      · have hne : ¬ (a[i].s = b[i].s ∧ a[i].n = b[i].n) := fun h => hp (by
          cases ha : a[i]; cases hb : b[i]; rw [ha, hb] at h; simp at h; simp [h.1, h.2])
        simp [go_sem, h0, h1', h5, hi, hib, hp, aggEq, scEq, hne])
    (fun s st h => by
      obtain ⟨tm, H, b⟩ := st
      simp only [bodyOf, Go.Proofs.Try.f168, Option.getD_some, loopsOf, rangesOf, List.nil_append, List.append_nil, List.cons_append, List.getElem?_cons_zero, List.getElem?_cons_succ]
      simp only [go_sem] at h
      obtain ⟨h0, h1', h5, rfl, rfl⟩ := h
      simp [go_sem, h0, h5])
    (fun _ h => by cases h)
  simp only [bodyOf, Go.Proofs.Try.f168, Option.getD_some, loopsOf, rangesOf, List.nil_append, List.append_nil, List.cons_append, List.getElem?_cons_zero, List.getElem?_cons_succ] at hR
  rw [foldE_eq b a 0 (by omega), List.drop_zero] at hR
  by_cases hab : a = b
  · simp [go_sem, hab] at hR
    simp [go_sem, hab, hR]
  · simp [go_sem, hab] at hR
    simp [go_sem, hab, h1, hR]

theorem f76_spec (a b : List (List Ext)) (hl : a.length < 1000000000) (hx : ∀ x ∈ a, x.length < 1000000000) (Y : List YF) : callS ev fs 76 [zExtss a, zExtss b] [] Y = some (.ret (zB (decide (a = b))), []) := by
  refine callS_by f76_eq rfl ?_
  simp only [bodyOf, Go.Proofs.Try.f76, Option.getD_some]
  by_cases h1 : a.length ≠ b.length
  · have hm : ¬ a = b := fun h => h1 (by rw [h])
    simp [go_sem, h1, hm, Int.ofNat_inj]
  replace h1 : a.length = b.length := by omega
  obtain ⟨R, hR⟩ := fold_loop (E := ev) (C := callS ev fs) (Y := Y) (w := {}) (a := (loopsOf (bodyOf Go.Proofs.Try.f76))[0]?.getD .skip) (b := 0) 
    a (fun i (_ : Unit) x => if some x = b[i]? then .inl () else .inr ()) () (ex := fun _ => .ret)
    (fun i _ => Live [(0, zExtss a), (1, zExtss b), (5, zI i)] [] 0) (fun _ => Live [] [] 0) (fun _ => Live [(4, zB false)] [] 0)
    (fun i s st hi h => by
      obtain ⟨tm, H, b⟩ := st
      simp only [bodyOf, Go.Proofs.Try.f76, Option.getD_some, loopsOf, rangesOf, List.nil_append, List.append_nil, List.cons_append, List.getElem?_cons_zero, List.getElem?_cons_succ]
      simp only [go_sem] at h
      obtain ⟨h0, h1', h5, rfl, rfl⟩ := h
      have hib : i < b.length := by omega
      have hc := f168_spec a[i] b[i] (hx _ (List.getElem_mem hi)) []
      simp only [go_sem] at hc
      by_cases hp : a[i] = b[i]
      · simp [hp] at hc
        simp [go_sem, h0, h1', h5, hi, hib, hp, hc, show i < 1000000000 by omega]
      · simp [hp] at hc
        simp [go_sem, h0, h1', h5, hi, hib, hp, hc])
    (fun s st h => by
      obtain ⟨tm, H, b⟩ := st
      simp only [bodyOf, Go.Proofs.Try.f76, Option.getD_some, loopsOf, rangesOf, List.nil_append, List.append_nil, List.cons_append, List.getElem?_cons_zero, List.getElem?_cons_succ]
      simp only [go_sem] at h
      obtain ⟨h0, h1', h5, rfl, rfl⟩ := h
      simp [go_sem, h0, h5])
    (fun _ h => by cases h)
  simp only [bodyOf, Go.Proofs.Try.f76, Option.getD_some, loopsOf, rangesOf, List.nil_append, List.append_nil, List.cons_append, List.getElem?_cons_zero, List.getElem?_cons_succ] at hR
  rw [foldE_eq b a 0 (by omega), List.drop_zero] at hR
  by_cases hab : a = b
  · simp [go_sem, hab] at hR
    simp [go_sem, hab, hR]
  · simp [go_sem, hab] at hR
    simp [go_sem, hab, h1, hR]
theorem f76_nil' : callN ev fs 10 76 [.sc (.slice none 0 0), .sc (.slice none 0 0)] [] [] = some (.ret (zB true), []) := by kernel_rfl
theorem f76_nil : callS ev fs 76 [.sc (.slice none 0 0), .sc (.slice none 0 0)] [] [] = some (.ret (zB true), []) := callS_iff.2 ⟨10, f76_nil'⟩

theorem f165_spec (a b c : Img) (ha : a.length < 100000000) (hb : b.length < 100000000) (hc : c.length < 100000000) (Y : List YF) :
    callS ev fs 165 [zImg a, zImg b, zImg c] [] Y = some (.ret (zI (mThree a b c)), []) := by
  refine callS_by f165_eq rfl ?_
  simp only [bodyOf, Go.Proofs.Try.f165, Option.getD_some]
  have h26a := f27_spec a ha []
  have h26b := f27_spec b hb []
  have h26c := f27_spec c hc []
  simp only [go_sem] at h26a h26b h26c
  by_cases h0 : ¬ mCheck a = 0
  · simp [go_sem, h26a, mThree, h0]
  replace h0 : mCheck a = 0 := Decidable.not_not.1 h0
  by_cases h1 : ¬ mCheck b = 0
  · simp [go_sem, h26a, h26b, mThree, h0, h1]
  replace h1 : mCheck b = 0 := Decidable.not_not.1 h1
  by_cases h2 : ¬ mCheck c = 0
  · simp [go_sem, h26a, h26b, h26c, mThree, h0, h1, h2]
  replace h2 : mCheck c = 0 := Decidable.not_not.1 h2
  by_cases l1 : ¬ a.length = c.length
  · have : ¬ a.map List.length = c.map List.length := fun h => l1 (sizes_len h)
    simp [go_sem, h26a, h26b, h26c, mThree, h0, h1, h2, this, l1, Int.ofNat_inj]
  replace l1 := Decidable.not_not.1 l1
  by_cases l2 : ¬ b.length = c.length
  · have : ¬ b.map List.length = c.map List.length := fun h => l2 (sizes_len h)
    simp [go_sem, h26a, h26b, h26c, mThree, h0, h1, h2, this, l1, l2, Int.ofNat_inj]
  replace l2 := Decidable.not_not.1 l2
  obtain ⟨R, hR⟩ := fold_loop (E := ev) (C := callS ev fs) (Y := Y) (w := {}) (a := (loopsOf (bodyOf Go.Proofs.Try.f165))[0]?.getD .skip) (b := 0) 
    c (fun i (_ : Unit) x => if some x.length = (a[i]?).map List.length ∧ some x.length = (b[i]?).map List.length then .inl () else .inr ()) () (ex := fun _ => .ret)
    (fun i _ => Live [(0, zImg a), (1, zImg b), (2, zImg c), (10, zI i)] [] 0) (fun _ => Live [] [] 0) (fun _ => Live [(6, zI 22)] [] 0)
    (fun i s st hi h => by
      obtain ⟨tm, H, b⟩ := st
      simp only [bodyOf, Go.Proofs.Try.f165, Option.getD_some, loopsOf, rangesOf, List.nil_append, List.append_nil, List.cons_append, List.getElem?_cons_zero, List.getElem?_cons_succ]
      simp only [go_sem] at h
      obtain ⟨g0, g1, g2, g10, rfl, rfl⟩ := h
      have hia : i < a.length := by omega
      have hib : i < b.length := by omega
      by_cases e1 : a[i].length = c[i].length
      · by_cases e2 : b[i].length = c[i].length
        · simp [go_sem, g0, g1, g2, g10, hi, hia, hib, e1, e2, show i < 1000000000 by omega]
        · simp [go_sem, g0, g1, g2, g10, hi, hia, hib, e1, e2, Int.ofNat_inj, Ne.symm e2, show i < 1000000000 by omega]
      · simp [go_sem, g0, g1, g2, g10, hi, hia, hib, e1, Int.ofNat_inj, Ne.symm e1, show i < 1000000000 by omega])
    (fun s st h => by
      obtain ⟨tm, H, b⟩ := st
      simp only [bodyOf, Go.Proofs.Try.f165, Option.getD_some, loopsOf, rangesOf, List.nil_append, List.append_nil, List.cons_append, List.getElem?_cons_zero, List.getElem?_cons_succ]
      simp only [go_sem] at h
      obtain ⟨g0, g1, g2, g10, rfl, rfl⟩ := h
      simp [go_sem, g0, g1, g2, g10])
    (fun _ h => by cases h)
  simp only [bodyOf, Go.Proofs.Try.f165, Option.getD_some, loopsOf, rangesOf, List.nil_append, List.append_nil, List.cons_append, List.getElem?_cons_zero, List.getElem?_cons_succ] at hR
  have hf : foldE (ρ := Unit) (fun i (_ : Unit) x => if some x.length = (a[i]?).map List.length ∧ some x.length = (b[i]?).map List.length then .inl () else .inr ()) 0 () c = if a.map List.length = c.map List.length ∧ b.map List.length = c.map List.length then .inl () else .inr () := by
    have key : ∀ (l : Img) (i : Nat), l.length + i = a.length → l.length + i = b.length → foldE (ρ := Unit) (fun i (_ : Unit) x => if some x.length = (a[i]?).map List.length ∧ some x.length = (b[i]?).map List.length then .inl () else .inr ()) i () l = if (a.drop i).map List.length = l.map List.length ∧ (b.drop i).map List.length = l.map List.length then .inl () else .inr () := by
      intro l
      induction l with
      | nil => intro i h1 h2; simp at h1 h2; simp [foldE, List.drop_of_length_le (show a.length ≤ i by omega), List.drop_of_length_le (show b.length ≤ i by omega)]
      | cons x l ih =>
        intro i h1 h2
        simp only [List.length_cons] at h1 h2
        have p1 : i < a.length := by omega
        have p2 : i < b.length := by omega
        simp only [foldE, List.getElem?_eq_getElem p1, List.getElem?_eq_getElem p2, Option.map_some, Option.some.injEq]
        rw [List.drop_eq_getElem_cons p1, List.drop_eq_getElem_cons p2]
        simp only [List.map_cons, List.cons.injEq]
        by_cases e1 : x.length = a[i].length
        · by_cases e2 : x.length = b[i].length
          · rw [if_pos ⟨e1, e2⟩]
            simp only
            rw [ih (i + 1) (by omega) (by omega)]
            simp only [← e1, ← e2, true_and]
          · rw [if_neg (fun h => e2 h.2), if_neg (fun h => e2 h.2.1.symm)]
        · rw [if_neg (fun h => e1 h.1), if_neg (fun h => e1 h.1.1.symm)]
    have := key c 0 (by omega) (by omega)
    simpa using this
  rw [hf] at hR
  by_cases hs : a.map List.length = c.map List.length ∧ b.map List.length = c.map List.length
  · simp [go_sem, hs] at hR
    simp [go_sem, h26a, h26b, h26c, mThree, h0, h1, h2, l1, l2, hs, hR]
  · simp only [hs, if_false] at hR
    simp [go_sem] at hR
    simp [go_sem, h26a, h26b, h26c, mThree, h0, h1, h2, l1, l2, hs, hR]
end Go.Proofs.Ytlphdiccffnckaa

/- Layer 54: the extents of marks; Conflicts of the reference. -/
namespace Go.Proofs.Ytlphdiccffnckaa
open Go Go.Abs

@[go_sem] def zBools (l : List Bool) : AV := .sl false 1 (l.map fun m => [.sc (.bool m)])
def markF (i : Nat) (out : List Ext) (m : Bool) : List Ext ⊕ Empty := .inl (if m = true then extStep i out else out)
def mList (ms : List Bool) : List Ext := match foldE markF 0 [] ms with
  | .inl s => s
theorem mList_fold (ms : List Bool) : foldE markF 0 [] ms = .inl (mList ms) := by
  unfold mList
  cases foldE markF 0 [] ms with
  | inl s => rfl
  | inr r => exact nomatch r

theorem f166_spec (ms : List Bool) (hl : ms.length < 100000000) (Y : List YF) : callS ev fs 166 [zBools ms] [] Y = some (.ret (zExts (mList ms)), []) := by
  refine callS_by f166_eq rfl ?_
  simp only [bodyOf, Go.Proofs.Try.f166, Option.getD_some]
  obtain ⟨R, hR⟩ := fold_loop (E := ev) (C := callS ev fs) (Y := Y) (w := w166) (a := (loopsOf (bodyOf Go.Proofs.Try.f166))[0]?.getD .skip) (b := 0) 
    ms markF ([] : List Ext) (ex := fun (r : Empty) => nomatch r)
    (fun i out st => (okOut i out ∧ out.length ≤ i ∧ (i = 0 → out = []) ∧ (∀ h : i - 1 < ms.length, 0 < i → if ms[i - 1] = true then endOf out = i else okOut (i - 1) out)) ∧ Live [(0, zBools ms), (3, .os 0 0 out.length out.length), (4, zI i)] [.own out.length 2 (extRows out)] 0 st)
    (fun out => Live [(3, .os 0 0 out.length out.length)] [.own out.length 2 (extRows out)] 0) (fun r => nomatch r)
    (fun i out st hi h => by
      obtain ⟨⟨ho, hol, hz, hm⟩, h⟩ := h
      obtain ⟨tm, H, b⟩ := st
      simp only [bodyOf, Go.Proofs.Try.f166, Option.getD_some, loopsOf, rangesOf, List.nil_append, List.append_nil, List.cons_append, List.getElem?_cons_zero, List.getElem?_cons_succ]
      simp only [go_sem] at h
      obtain ⟨h0, h3, h4, rfl, rfl⟩ := h
      cases hmi : ms[i] with
      | false =>
        have hmo := ho.mono
        simp [go_sem, h0, h3, h4, hi, hmi, markF, hmo, ho, show out.length ≤ i + 1 by omega, show i < 1000000000 by omega]
      | true =>
      have hst := ho.step
      have hse := extStep_end (i := i) (out := out)
      have hr : room (out.length + 1) 16 = true := room_ok (by omega) (by omega) (by omega)
      by_cases h00 : i = 0
      · subst h00
        obtain rfl := hz rfl
        simp [extStep] at hst hse
        simp [go_sem, h0, h3, h4, hi, hmi, markF, hst, extStep, extRows, room1, hse, show IntKind.wrap .i64 1 = 1 by decide]
      · obtain ⟨k, hki⟩ : ∃ k, i - 1 = k := ⟨i - 1, rfl⟩
        simp only [hki] at hm
        have hk : k < ms.length := by omega
        have hm := hm hk (by omega)
        have hk2 : (i : Int) - 1 = k := by omega
        cases hmk : ms[k] with
        | true =>
          simp only [hmk, if_true] at hm
          rcases List.eq_nil_or_concat out with rfl | ⟨init, x, rfl⟩
          · simp [endOf] at hm <;> omega
          simp only [List.concat_eq_append, List.length_append, List.length_singleton] at ho hol hr hst hse hm h3 ⊢
          have hx := ho x (by simp)
          have hxi : x.s + x.n = i := by simpa [endOf] using hm
          have hil : init.length < 1000000000 := by omega
          have he1 : extStep i (init ++ [x]) = init ++ [⟨x.s, x.n + 1⟩] := by simp [extStep, hxi]
          have hw := wrap64 (x := x.n + 1) (by omega)
          rw [he1] at hst hse
          simp [go_sem, h0, h3, h4, hi, hmi, hk2, hk, hmk, markF, hst, he1, hw, hil, hse, extRows, show 0 < i by omega, show init.length ≤ i by omega, show i < 1000000000 by omega, show k < 1000000000 by omega]
        | false =>
          simp only [hmk, Bool.false_eq_true, if_false] at hm
          have he1 : extStep i out = out ++ [⟨i, 1⟩] := by
            unfold extStep
            cases hg : out.getLast? with
            | none => rw [List.getLast?_eq_none_iff.1 hg]; rfl
            | some x =>
              have := hm x (List.mem_of_getLast? hg)
              dsimp only
              rw [if_neg (by omega)]
          rw [he1] at hst hse
          simp [go_sem, h0, h3, h4, hi, hmi, hk2, hk, hmk, markF, hst, he1, hr, hse, extRows, show 0 < i by omega, show out.length ≤ i by omega, show i < 1000000000 by omega, show k < 1000000000 by omega])
    (fun out st h => by
      obtain ⟨_, h⟩ := h
      obtain ⟨tm, H, b⟩ := st
      simp only [bodyOf, Go.Proofs.Try.f166, Option.getD_some, loopsOf, rangesOf, List.nil_append, List.append_nil, List.cons_append, List.getElem?_cons_zero, List.getElem?_cons_succ]
      simp only [go_sem] at h
      obtain ⟨h0, h3, h4, rfl, rfl⟩ := h
      simp [go_sem, h0, h3, h4])
    (fun r => nomatch r)
  simp only [bodyOf, Go.Proofs.Try.f166, Option.getD_some, loopsOf, rangesOf, List.nil_append, List.append_nil, List.cons_append, List.getElem?_cons_zero, List.getElem?_cons_succ] at hR
  rw [mList_fold] at hR
  generalize mList ms = out at *
  simp [go_sem, extRows, okOut] at hR
  simp [go_sem, freeze_os, hR]

theorem mList_len (ms : List Bool) : (mList ms).length ≤ ms.length := by
  have key : ∀ (l : List Bool) (i : Nat) (out out' : List Ext), foldE markF i out l = .inl out' → out'.length ≤ out.length + l.length := by
    intro l
    induction l with
    | nil => intro i out out' h; simp only [foldE, Sum.inl.injEq] at h; subst h; simp
    | cons m l ih =>
      intro i out out' h
      simp only [foldE, markF] at h
      have := ih _ _ _ h
      have hs : (extStep i out).length ≤ out.length + 1 := by
        unfold extStep
        split
        · split
          · simp <;> omega
          · simp
        · simp
      simp only [List.length_cons]
      split at this <;> omega
  have := key ms 0 [] _ (mList_fold ms)
  simpa using this

/-- Extents of marks are those at which images of the marks differ from the blank one. -/
def marks (a b c : Vol) : List Bool := List.zipWith (fun z p => inConf p.1 p.2 z) c (a.zip b)
theorem mark_blank (x y z : Sec) : (mark x y z = blank x y z) ↔ inConf x y z = false := by
  unfold mark blank
  cases h : inConf x y z
  · simp
  · simp only [if_true, Bool.true_eq_false, iff_false]
    decide
theorem ext_marks (a b c : Vol) (h1 : a.length = c.length) (h2 : b.length = c.length) : mExt (pick3 mark a b c) (pick3 blank a b c) = mList (marks a b c) := by
  have key : ∀ (n i : Nat) (out : List Ext), i + n = c.length → foldE (ρ := Empty) (diffF extStep (pick3 blank a b c)) i out ((pick3 mark a b c).drop i) = foldE markF i out ((marks a b c).drop i) := by
    intro n
    induction n with
    | zero =>
      intro i out h
      rw [List.drop_of_length_le (by rw [pick3_len h1 h2]; omega), List.drop_of_length_le (by simp [marks, List.length_zip, h1, h2]; omega)]
      rfl
    | succ n ih =>
      intro i out h
      have l1 := pick3_len (q := mark) h1 h2
      have l2 := pick3_len (q := blank) h1 h2
      have l3 : (marks a b c).length = c.length := by simp [marks, List.length_zip, h1, h2]
      rw [List.drop_eq_getElem_cons (show i < (pick3 mark a b c).length by omega), List.drop_eq_getElem_cons (show i < (marks a b c).length by omega)]
      simp only [foldE]
      have e1 : (pick3 mark a b c)[i]'(by omega) = mark (a[i]'(by omega)) (b[i]'(by omega)) (c[i]'(by omega)) := by simp [pick3]
      have e2 : (pick3 blank a b c)[i]'(by omega) = blank (a[i]'(by omega)) (b[i]'(by omega)) (c[i]'(by omega)) := by simp [pick3]
      have e3 : (marks a b c)[i]'(by omega) = inConf (a[i]'(by omega)) (b[i]'(by omega)) (c[i]'(by omega)) := by simp [marks]
      rw [e1, e3]
      simp only [diffF, markF, List.getElem?_eq_getElem (show i < (pick3 blank a b c).length by omega), e2, Option.some.injEq, mark_blank]
      cases hm : inConf (a[i]'(by omega)) (b[i]'(by omega)) (c[i]'(by omega))
      · simp only [if_true, Bool.false_eq_true, if_false]
        exact ih (i + 1) out (by omega)
      · simp only [Bool.true_eq_false, if_false, if_true]
        exact ih (i + 1) _ (by omega)
  have := key c.length 0 [] (by omega)
  simp only [List.drop_zero] at this
  unfold mExt mList
  rw [this]
  cases foldE markF 0 [] (marks a b c) with
  | inl s => rfl
  | inr r => exact nomatch r
end Go.Proofs.Ytlphdiccffnckaa

/- Layer 54: Conflicts of the reference. -/
namespace Go.Proofs.Ytlphdiccffnckaa
open Go Go.Abs

theorem foldE_fill {α β γ ρ : Type} (g : α → β → γ) (d : β) (ys : List β) : ∀ (xs : List α) (i : Nat) (t : List γ), xs.length + i = ys.length → t.length = ys.length →
    foldE (ρ := ρ) (fun i t x => .inl (t.set i (g x ((ys[i]?).getD d)))) i t xs = .inl (t.take i ++ List.zipWith g xs (ys.drop i))
  | [], i, t, h, ht => by simp at h; simp [foldE, List.drop_of_length_le (show ys.length ≤ i by omega), List.take_of_length_le (show t.length ≤ i by omega)]
  | x :: xs, i, t, h, ht => by
    simp only [List.length_cons] at h
    have hlt : i < ys.length := by omega
    simp only [foldE]
    rw [foldE_fill g d ys xs (i + 1) _ (by omega) (by simpa using ht), List.drop_eq_getElem_cons hlt, List.getElem?_eq_getElem hlt]
    simp only [Option.getD_some, List.zipWith_cons_cons]
    have h1 : (t.set i (g x ys[i])).take (i + 1) = t.take i ++ [g x ys[i]] := by
      rw [List.take_set, List.take_succ_eq_append_getElem (show i < t.length by omega), List.set_append_right _ _ (by simp; omega)]
      simp [show min i t.length = i by omega]
    rw [h1, List.append_assoc]
    rfl

theorem zip_at {α β : Type} {a : List α} {b : List β} {i : Nat} (h1 : i < a.length) (h2 : i < b.length) (d : α × β) : ((a.zip b)[i]?).getD d = (a[i], b[i]) := by
  rw [List.getElem?_eq_getElem (by simp [List.length_zip]; omega)]
  simp

theorem f73_spec (a b c : Img) (ha : a.length < 100000000) (hb : b.length < 100000000) (hc : c.length < 100000000) (Y : List YF) :
    callS ev fs 73 [zImg a, zImg b, zImg c] [] Y = some (.ret (.tup [zConf a b c, zI (mThree a b c)]), []) := by
  refine callS_by f73_eq rfl ?_
  simp only [bodyOf, Go.Proofs.Try.f73, Option.getD_some]
  have h165 := f165_spec a b c ha hb hc []
  by_cases h0 : ¬ mThree a b c = 0
  · simp only [go_sem] at h165
    simp [go_sem, h165, h0, zConf]
  replace h0 : mThree a b c = 0 := Decidable.not_not.1 h0
  obtain ⟨q1, q2, q3, s1, s2⟩ := alike_zero h0
  obtain ⟨r1, r2, r3⟩ := mCheck_zero q3
  have la := sizes_len s1
  have lb := sizes_len s2
  have hu2 : ∀ s : List (List Ext), AV.underLL 1 (s.map fun v => [AV.sl false 2 (v.map fun e => [.sc (.int .i64 e.s), .sc (.int .i64 e.n)])]) = true := underLL_maps (fun _ => rfl)
  obtain ⟨R, hR⟩ := fold_loop (E := ev) (C := callS ev fs) (Y := Y) (w := w73) (a := (loopsOf (bodyOf Go.Proofs.Try.f73))[0]?.getD .skip) (b := 0) 
    c (fun i s vc => .inl (s ++ [(fun vc p => mList (marks p.1 p.2 vc)) vc (((a.zip b)[i]?).getD ([], []))])) ([] : List (List Ext)) (ex := fun (r : Empty) => nomatch r)
    (fun i s st => (s.length = i ∧ ∃ B, st.H = .own i 1 (s.map fun v => [zExts v]) :: B) ∧ LiveT [(0, zImg a), (1, zImg b), (2, zImg c), (9, .os 0 0 i i), (10, zI i)] 0 st)
    (fun s => Live [(9, .os 0 0 c.length c.length)] [.own c.length 1 (s.map fun v => [zExts v])] 0) (fun r => nomatch r)
    (fun i s st hi h => by
      obtain ⟨⟨hs, B, hH⟩, h⟩ := h
      subst hs
      have hia : s.length < a.length := by omega
      have hib : s.length < b.length := by omega
      have sa := sizes_get s1 hia hi
      have sb := sizes_get s2 hib hi
      have hvi := (r3 _ (List.getElem_mem hi)).2
      have hzip := zip_at hia hib ([], [])
      rw [hzip]
      generalize hk : s.length = i at *
      obtain ⟨S, hS⟩ := fold_loop (E := ev) (C := callS ev fs) (Y := Y) (w := w73) (a := (loopsOf (bodyOf Go.Proofs.Try.f73))[1]?.getD .skip) (b := 2) 
        (c[i]) (fun k t z => .inl (t.set k ((fun z p => inConf p.1 p.2 z) z (((a[i].zip b[i])[k]?).getD (sZero, sZero))))) (List.replicate (c[i]).length false) (ex := fun (r : Empty) => nomatch r)
        (fun k t st => t.length = (c[i]).length ∧ Live [(0, zImg a), (1, zImg b), (2, zImg c), (9, .os 0 0 i i), (10, zI i), (11, .os 1 0 (c[i]).length 0), (12, zI k)] [.own i 1 (s.map fun v => [zExts v]), .own 0 1 (t.map fun m => [.sc (.bool m)])] 0 st)
        (fun t => Live [(0, zImg a), (1, zImg b), (2, zImg c), (9, .os 0 0 i i), (10, zI i), (11, .os 1 0 (c[i]).length 0)] [.own i 1 (s.map fun v => [zExts v]), .own 0 1 (t.map fun m => [.sc (.bool m)])] 0) (fun r => nomatch r)
        (fun k t st hj h => by
          obtain ⟨ht, h⟩ := h
          obtain ⟨tm, H, b⟩ := st
          simp only [bodyOf, Go.Proofs.Try.f73, Option.getD_some, loopsOf, rangesOf, List.nil_append, List.append_nil, List.cons_append, List.getElem?_cons_zero, List.getElem?_cons_succ]
          simp only [go_sem] at h
          obtain ⟨g0, g1, g2, g9, g10, g11, g12, rfl, rfl⟩ := h
          have hka : k < a[i].length := by omega
          have hkb : k < b[i].length := by omega
          rw [zip_at hka hkb]
          by_cases e1 : a[i][k] = c[i][k]
          · simp [go_sem, g0, g1, g2, g9, g10, g11, g12, hi, hia, hib, hj, hka, hkb, ht, e1, inConf, show i < 1000000000 by omega, show k < 1000000000 by omega]
          by_cases e2 : b[i][k] = c[i][k]
          · simp [go_sem, g0, g1, g2, g9, g10, g11, g12, hi, hia, hib, hj, hka, hkb, ht, e1, e2, inConf, show i < 1000000000 by omega, show k < 1000000000 by omega]
          by_cases e3 : a[i][k] = b[i][k]
          · simp [go_sem, g0, g1, g2, g9, g10, g11, g12, hi, hia, hib, hj, hka, hkb, ht, e1, e2, e3, inConf, show i < 1000000000 by omega, show k < 1000000000 by omega]
          simp [go_sem, g0, g1, g2, g9, g10, g11, g12, hi, hia, hib, hj, hka, hkb, ht, e1, e2, e3, inConf, show i < 1000000000 by omega, show k < 1000000000 by omega])
        (fun t st h => by
          obtain ⟨ht, h⟩ := h
          obtain ⟨tm, H, b⟩ := st
          simp only [bodyOf, Go.Proofs.Try.f73, Option.getD_some, loopsOf, rangesOf, List.nil_append, List.append_nil, List.cons_append, List.getElem?_cons_zero, List.getElem?_cons_succ]
          simp only [go_sem] at h
          obtain ⟨g0, g1, g2, g9, g10, g11, g12, rfl, rfl⟩ := h
          simp [go_sem, g0, g1, g2, g9, g10, g11, g12, ht])
        (fun r => nomatch r)
      simp only [bodyOf, Go.Proofs.Try.f73, Option.getD_some, loopsOf, rangesOf, List.nil_append, List.append_nil, List.cons_append, List.getElem?_cons_zero, List.getElem?_cons_succ] at hS
      have hfz : foldE (ρ := Empty) (fun k (t : List Bool) z => .inl (t.set k ((fun z p => inConf p.1 p.2 z) z (((a[i].zip b[i])[k]?).getD (sZero, sZero))))) 0 (List.replicate (c[i]).length false) c[i] = .inl (marks a[i] b[i] c[i]) := by
        rw [foldE_fill (ρ := Empty) (fun z p => inConf p.1 p.2 z) (sZero, sZero) (a[i].zip b[i]) c[i] 0 _ (by simp [List.length_zip]; omega) (by simp [List.length_zip]; omega)]
        rfl
      have hml : (marks a[i] b[i] c[i]).length = c[i].length := by simp [marks, List.length_zip, sa, sb]
      have h166 := f166_spec (marks a[i] b[i] c[i]) (by omega) []
      simp only at hfz
      rw [hfz] at hS
      have hll := mList_len (marks a[i] b[i] c[i])
      generalize hpk : marks a[i] b[i] c[i] = pk at *
      generalize hes : mList pk = es at *
      simp only [go_sem] at h166
      have htk : (pk.map fun m => [AV.sc (.bool m)]).take c[i].length = pk.map fun m => [AV.sc (.bool m)] := by rw [← hml]; exact take_map_len _ _
      have htk3 : (s.map fun v => [AV.sl false 2 (v.map fun e => [.sc (.int .i64 e.s), .sc (.int .i64 e.n)])]).take i = s.map fun v => [AV.sl false 2 (v.map fun e => [.sc (.int .i64 e.s), .sc (.int .i64 e.n)])] := by rw [← hk]; exact take_map_len _ _
      have hpp : AV.pureLL (pk.map fun m => [AV.sc (.bool m)]) = true := pureLL_map (fun _ => rfl) _
      simp [go_sem] at hS
      obtain ⟨tm, HH, bb⟩ := st
      simp only [bodyOf, Go.Proofs.Try.f73, Option.getD_some, loopsOf, rangesOf, List.nil_append, List.append_nil, List.cons_append, List.getElem?_cons_zero, List.getElem?_cons_succ]
      simp only [go_sem] at h
      simp only at hH
      subst hH
      obtain ⟨g0, g1, g2, g9, g10, rfl⟩ := h
      have hr : room (i + 1) 24 = true := room_ok (by omega) (by omega) (by omega)
      have hr2 : room c[i].length 1 = true := room_ok (by omega) (by omega) (by omega)
      simp [go_sem, g0, g1, g2, g9, g10, hi, hu2, hS, hr, hr2, hk, htk, htk3, hpp, hml, hpk, hes, h166, show i < 1000000000 by omega, show c[i].length ≤ 1099511627776 by omega])
    (fun s st h => by
      obtain ⟨⟨hs, B, hH⟩, h⟩ := h
      obtain ⟨tm, HH, bb⟩ := st
      simp only [bodyOf, Go.Proofs.Try.f73, Option.getD_some, loopsOf, rangesOf, List.nil_append, List.append_nil, List.cons_append, List.getElem?_cons_zero, List.getElem?_cons_succ]
      simp only [go_sem] at h
      simp only at hH
      subst hH
      obtain ⟨g0, g1, g2, g9, g10, rfl⟩ := h
      simp [go_sem, g0, g1, g2, g9, g10, hu2])
    (fun r => nomatch r)
  simp only [bodyOf, Go.Proofs.Try.f73, Option.getD_some, loopsOf, rangesOf, List.nil_append, List.append_nil, List.cons_append, List.getElem?_cons_zero, List.getElem?_cons_succ] at hR
  have hcf : List.zipWith (fun vc p => mList (marks p.1 p.2 vc)) c (a.zip b) = conf a b c := by
    refine List.ext_getElem (by simp [conf, choose, List.length_zip]) fun i p1 p2 => ?_
    simp only [List.length_zipWith, List.length_zip] at p1
    simp only [conf, choose, List.getElem_zipWith, List.getElem_zip]
    exact (ext_marks _ _ _ (sizes_get s1 (by omega) (by omega)) (sizes_get s2 (by omega) (by omega))).symm
  have hfz : foldE (ρ := Empty) (fun i s vc => .inl (s ++ [(fun vc p => mList (marks p.1 p.2 vc)) vc (((a.zip b)[i]?).getD ([], []))])) 0 [] c = .inl (conf a b c) := by
    rw [foldE_zip (ρ := Empty) (fun vc p => mList (marks p.1 p.2 vc)) ([], []) (a.zip b) c 0 [] (by simp [List.length_zip]; omega), ← hcf]
    rfl
  have hcl : (conf a b c).length = c.length := by rw [← hcf]; simp [List.length_zip]; omega
  simp only at hfz
  rw [hfz] at hR
  simp only [zConf, h0, if_true]
  generalize conf a b c = ch at *
  have htk : (ch.map fun v => [AV.sl false 2 (v.map fun e => [.sc (.int .i64 e.s), .sc (.int .i64 e.n)])]).take c.length = ch.map fun v => [AV.sl false 2 (v.map fun e => [.sc (.int .i64 e.s), .sc (.int .i64 e.n)])] := by rw [← hcl]; exact take_map_len _ _
  simp only [go_sem, h0] at h165
  simp [go_sem] at hR
  simp [go_sem, h165, freeze_os, hcl, htk, hR]
end Go.Proofs.Ytlphdiccffnckaa

