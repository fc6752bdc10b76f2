/- Layer 7: New and Check. -/
import Derived.Test.YtlphdiccffnckaaIma
namespace Go.Proofs.Ytlphdiccffnckaa
open Go Go.Abs


theorem f178_spec (v : Vol) (Y : List YF) : callS ev fs 178 [zVol v] [] Y = some (.ret (zI v.length), []) := by
  refine callS_by f178_eq rfl ?_
  simp only [bodyOf, Go.Proofs.Try.f178, Option.getD_some]
  simp [go_sem]

theorem f177_spec (im : Img) (g : Nat) (q : Vol → Int) (hl : im.length < 100000000)
    (hg : ∀ x ∈ im, callS ev fs g [zVol x] [] [] = some (.ret (zI (q x)), [])) (Y : List YF) :
    callS ev fs 177 [zImg im, .fn g []] [] Y = some (.ret (zInts (im.map q)), []) := by
  refine callS_by f177_eq rfl ?_
  simp only [bodyOf, Go.Proofs.Try.f177, Option.getD_some]
  have hroom : room im.length 8 = true := room_ok (by omega) (by omega) (by omega)
  obtain ⟨R, hR⟩ := fold_loop (E := ev) (C := callS ev fs) (Y := Y) (w := w177) (a := (loopsOf (bodyOf Go.Proofs.Try.f177))[0]?.getD .skip) (b := 0) 
    im (fun _ s x => .inl (s ++ [q x])) ([] : List Int) (ex := fun (r : Empty) => nomatch r)
    (fun i s st => s.length = i ∧ Live [(1, .fn g []), (5, .os 0 0 i i), (11, zImg im), (12, zI im.length), (13, zI i)] [.own i 1 (s.map fun n => [zI n])] 0 st)
    (fun s => Live [(5, .os 0 0 im.length im.length)] [.own im.length 1 (s.map fun n => [zI n])] 0) (fun r => nomatch r)
    (fun i s st hi h => by
      obtain ⟨rfl, h⟩ := h
      obtain ⟨tm, H, b⟩ := st
      simp only [bodyOf, Go.Proofs.Try.f177, Option.getD_some, loopsOf, rangesOf, List.nil_append, List.append_nil, List.cons_append, List.getElem?_cons_zero, List.getElem?_cons_succ]
      simp only [go_sem] at h
      obtain ⟨h1, h5, h11, h12, h13, rfl, rfl⟩ := h
      have hgx := hg im[s.length] (List.getElem_mem hi)
      simp only [go_sem] at hgx
      have hr : room (s.length + 1) 8 = true := room_ok (by omega) (by omega) (by omega)
      simp [go_sem, h1, h5, h11, h12, h13, hi, hgx, hr, show s.length < 1000000000 by omega])
    (fun s st h => by
      obtain ⟨_, h⟩ := h
      obtain ⟨tm, H, b⟩ := st
      simp only [bodyOf, Go.Proofs.Try.f177, Option.getD_some, loopsOf, rangesOf, List.nil_append, List.append_nil, List.cons_append, List.getElem?_cons_zero, List.getElem?_cons_succ]
      simp only [go_sem] at h
      obtain ⟨h1, h5, h11, h12, h13, rfl, rfl⟩ := h
      simp [go_sem, h1, h5, h11, h12, h13])
    (fun r => nomatch r)
  simp only [bodyOf, Go.Proofs.Try.f177, Option.getD_some, loopsOf, rangesOf, List.nil_append, List.append_nil, List.cons_append, List.getElem?_cons_zero, List.getElem?_cons_succ] at hR
  rw [foldE_map] at hR
  simp [go_sem] at hR
  simp [go_sem, freeze_os, hR, hroom, show im.length ≤ 1099511627776 by omega]

theorem f93_spec (im : Img) (hl : im.length < 100000000) (Y : List YF) : callS ev fs 93 [zImg im] [] Y = some (.ret (zInts (im.map fun v => (v.length : Int))), []) := by
  refine callS_by f93_eq rfl ?_
  simp only [bodyOf, Go.Proofs.Try.f93, Option.getD_some]
  have h := f177_spec im 178 (fun v => v.length) hl (fun x _ => f178_spec x []) []
  simp only [go_sem] at h
  simp [go_sem, h]

def mCheck (im : Img) : Int := mSizes (im.map fun v => (v.length : Int))

theorem f26_spec (im : Img) (hl : im.length < 100000000) (Y : List YF) : callS ev fs 26 [zImg im] [] Y = some (.ret (zI (mCheck im)), []) := by
  refine callS_by f26_eq rfl ?_
  simp only [bodyOf, Go.Proofs.Try.f26, Option.getD_some]
  have h1 := f93_spec im hl []
  have h2 := f88_spec (im.map fun v => (v.length : Int)) []
  simp only [go_sem, List.map_map] at h1 h2
  simp [go_sem, h1, h2, mCheck]

theorem f51_spec (im : Img) (hl : im.length < 100000000) (Y : List YF) : callS ev fs 51 [zImg im] [] Y = some (.ret (zInts (im.map fun v => (v.length : Int))), []) := by
  refine callS_by f51_eq rfl ?_
  simp only [bodyOf, Go.Proofs.Try.f51, Option.getD_some]
  obtain ⟨R, hR⟩ := fold_loop (E := ev) (C := callS ev fs) (Y := Y) (w := w51) (a := (loopsOf (bodyOf Go.Proofs.Try.f51))[0]?.getD .skip) (b := 0) 
    im (fun _ s x => .inl (s ++ [(x.length : Int)])) ([] : List Int) (ex := fun (r : Empty) => nomatch r)
    (fun i s st => s.length = i ∧ Live [(0, zImg im), (3, .os 0 0 i i), (4, zI i)] [.own i 1 (s.map fun n => [zI n])] 0 st)
    (fun s => Live [(3, .os 0 0 im.length im.length)] [.own im.length 1 (s.map fun n => [zI n])] 0) (fun r => nomatch r)
    (fun i s st hi h => by
      obtain ⟨rfl, h⟩ := h
      obtain ⟨tm, H, b⟩ := st
      simp only [bodyOf, Go.Proofs.Try.f51, Option.getD_some, loopsOf, rangesOf, List.nil_append, List.append_nil, List.cons_append, List.getElem?_cons_zero, List.getElem?_cons_succ]
      simp only [go_sem] at h
      obtain ⟨h0, h3, h4, rfl, rfl⟩ := h
      have hr : room (s.length + 1) 8 = true := room_ok (by omega) (by omega) (by omega)
      simp [go_sem, h0, h3, h4, hi, hr, show s.length < 1000000000 by omega])
    (fun s st h => by
      obtain ⟨_, h⟩ := h
      obtain ⟨tm, H, b⟩ := st
      simp only [bodyOf, Go.Proofs.Try.f51, Option.getD_some, loopsOf, rangesOf, List.nil_append, List.append_nil, List.cons_append, List.getElem?_cons_zero, List.getElem?_cons_succ]
      simp only [go_sem] at h
      obtain ⟨h0, h3, h4, rfl, rfl⟩ := h
      simp [go_sem, h0, h3, h4])
    (fun r => nomatch r)
  simp only [bodyOf, Go.Proofs.Try.f51, Option.getD_some, loopsOf, rangesOf, List.nil_append, List.append_nil, List.cons_append, List.getElem?_cons_zero, List.getElem?_cons_succ] at hR
  rw [foldE_map] at hR
  simp [go_sem] at hR
  simp [go_sem, freeze_os, hR]

theorem f27_spec (im : Img) (hl : im.length < 100000000) (Y : List YF) : callS ev fs 27 [zImg im] [] Y = some (.ret (zI (mCheck im)), []) := by
  refine callS_by f27_eq rfl ?_
  simp only [bodyOf, Go.Proofs.Try.f27, Option.getD_some]
  have h1 := f51_spec im hl []
  have h2 := f91_spec (im.map fun v => (v.length : Int)) []
  simp only [go_sem, List.map_map] at h1 h2
  simp [go_sem, h1, h2, mCheck]

def zSecs (n : Int) : Vol := List.replicate n.toNat ⟨List.replicate 8 0, rfl⟩
theorem f90_spec (n : Int) (h0 : 0 ≤ n) (h1 : n < 10000) (Y : List YF) : callS ev fs 90 [zI n] [] Y = some (.ret (zVol (zSecs n)), []) := by
  refine callS_by f90_eq rfl ?_
  simp only [bodyOf, Go.Proofs.Try.f90, Option.getD_some]
  have hr : room n.toNat 8 = true := room_ok (by omega) (by omega) (by omega)
  simp [go_sem, h0, hr, show n ≤ 1099511627776 by omega, zSecs, secRow]

theorem f89_spec (xs : List Int) (g : Nat) (q : Int → Vol) (hl : xs.length < 100000000)
    (hg : ∀ x ∈ xs, callS ev fs g [zI x] [] [] = some (.ret (zVol (q x)), [])) (Y : List YF) :
    callS ev fs 89 [zInts xs, .fn g []] [] Y = some (.ret (zImg (xs.map q)), []) := by
  refine callS_by f89_eq rfl ?_
  simp only [bodyOf, Go.Proofs.Try.f89, Option.getD_some]
  have hroom : room xs.length 24 = true := room_ok (by omega) (by omega) (by omega)
  obtain ⟨R, hR⟩ := fold_loop (E := ev) (C := callS ev fs) (Y := Y) (w := w89) (a := (loopsOf (bodyOf Go.Proofs.Try.f89))[0]?.getD .skip) (b := 0) 
    xs (fun _ s x => .inl (s ++ [q x])) ([] : Img) (ex := fun (r : Empty) => nomatch r)
    (fun i s st => s.length = i ∧ Live [(1, .fn g []), (5, .os 0 0 i i), (11, zInts xs), (12, zI xs.length), (13, zI i)] [.own i 1 (s.map fun v => [zVol v])] 0 st)
    (fun s => Live [(5, .os 0 0 xs.length xs.length)] [.own xs.length 1 (s.map fun v => [zVol v])] 0) (fun r => nomatch r)
    (fun i s st hi h => by
      obtain ⟨rfl, h⟩ := h
      obtain ⟨tm, H, b⟩ := st
      simp only [bodyOf, Go.Proofs.Try.f89, Option.getD_some, loopsOf, rangesOf, List.nil_append, List.append_nil, List.cons_append, List.getElem?_cons_zero, List.getElem?_cons_succ]
      simp only [go_sem] at h
      obtain ⟨h1, h5, h11, h12, h13, rfl, rfl⟩ := h
      have hgx := hg xs[s.length] (List.getElem_mem hi)
      simp only [go_sem] at hgx
      have hr : room (s.length + 1) 24 = true := room_ok (by omega) (by omega) (by omega)
      simp [go_sem, h1, h5, h11, h12, h13, hi, hgx, hr, show s.length < 1000000000 by omega])
    (fun s st h => by
      obtain ⟨_, h⟩ := h
      obtain ⟨tm, H, b⟩ := st
      simp only [bodyOf, Go.Proofs.Try.f89, Option.getD_some, loopsOf, rangesOf, List.nil_append, List.append_nil, List.cons_append, List.getElem?_cons_zero, List.getElem?_cons_succ]
      simp only [go_sem] at h
      obtain ⟨h1, h5, h11, h12, h13, rfl, rfl⟩ := h
      simp [go_sem, h1, h5, h11, h12, h13])
    (fun r => nomatch r)
  simp only [bodyOf, Go.Proofs.Try.f89, Option.getD_some, loopsOf, rangesOf, List.nil_append, List.append_nil, List.cons_append, List.getElem?_cons_zero, List.getElem?_cons_succ] at hR
  rw [foldE_map] at hR
  simp [go_sem] at hR
  simp [go_sem, freeze_os, hR, hroom, show xs.length ≤ 1099511627776 by omega]

theorem any_bad {xs : List Int} (h : xs.any badSize = false) : ∀ x ∈ xs, 1 ≤ x ∧ x ≤ 4096 := fun x hx => by
  have := List.any_eq_false.1 h x hx
  simp only [badSize, Bool.or_eq_true, decide_eq_true_eq, not_or] at this
  omega
theorem mSizes_zero {xs : List Int} (h : mSizes xs = 0) : 1 ≤ xs.length ∧ xs.length ≤ 8 ∧ ∀ x ∈ xs, 1 ≤ x ∧ x ≤ 4096 := by
  unfold mSizes at h
  split at h
  · simp at h
  · split at h
    · simp at h
    · rename_i h2 h3
      exact ⟨by omega, by omega, any_bad (by simpa using h3)⟩

/-- The image of zero sectors. -/
def mNew (xs : List Int) : AV := if mSizes xs = 0 then zImg (xs.map zSecs) else .sc (.slice none 0 0)

theorem f23_spec (xs : List Int) (Y : List YF) : callS ev fs 23 [zInts xs] [] Y = some (.ret (.tup [mNew xs, zI (mSizes xs)]), []) := by
  refine callS_by f23_eq rfl ?_
  simp only [bodyOf, Go.Proofs.Try.f23, Option.getD_some]
  have h1 := f88_spec xs []
  simp only [go_sem] at h1
  by_cases h0 : mSizes xs = 0
  · obtain ⟨a, b, c⟩ := mSizes_zero h0
    have h2 := f89_spec xs 90 zSecs (by omega) (fun x hx => f90_spec x (by have := c x hx; omega) (by have := c x hx; omega) []) []
    simp only [go_sem, List.map_map] at h2
    simp [go_sem, h1, h0, h2, mNew]
  · simp [go_sem, h1, h0, mNew]

theorem f24_spec (xs : List Int) (Y : List YF) : callS ev fs 24 [zInts xs] [] Y = some (.ret (.tup [mNew xs, zI (mSizes xs)]), []) := by
  refine callS_by f24_eq rfl ?_
  simp only [bodyOf, Go.Proofs.Try.f24, Option.getD_some]
  have h1 := f91_spec xs []
  simp only [go_sem] at h1
  by_cases h0 : ¬ mSizes xs = 0
  · simp [go_sem, h1, h0, mNew]
  replace h0 : mSizes xs = 0 := by omega
  obtain ⟨a, b, c⟩ := mSizes_zero h0
  obtain ⟨R, hR⟩ := fold_loop (E := ev) (C := callS ev fs) (Y := Y) (w := w24) (a := (loopsOf (bodyOf Go.Proofs.Try.f24))[0]?.getD .skip) (b := 0) 
    xs (fun _ s x => .inl (s ++ [zSecs x])) ([] : Img) (ex := fun (r : Empty) => nomatch r)
    (fun i s st => s.length = i ∧ Live [(0, zInts xs), (5, .os 0 0 i i), (6, zI i)] [.own i 1 (s.map fun v => [zVol v])] 0 st)
    (fun s => Live [(5, .os 0 0 xs.length xs.length)] [.own xs.length 1 (s.map fun v => [zVol v])] 0) (fun r => nomatch r)
    (fun i s st hi h => by
      obtain ⟨rfl, h⟩ := h
      obtain ⟨tm, H, b⟩ := st
      simp only [bodyOf, Go.Proofs.Try.f24, Option.getD_some, loopsOf, rangesOf, List.nil_append, List.append_nil, List.cons_append, List.getElem?_cons_zero, List.getElem?_cons_succ]
      simp only [go_sem] at h
      obtain ⟨h1, h5, h6, rfl, rfl⟩ := h
      have hx := c xs[s.length] (List.getElem_mem hi)
      have hr : room (s.length + 1) 24 = true := room_ok (by omega) (by omega) (by omega)
      have hr2 : room xs[s.length].toNat 8 = true := room_ok (by omega) (by omega) (by omega)
      simp [go_sem, h1, h5, h6, hi, hr, hr2, zSecs, secRow, show s.length < 1000000000 by omega, show 0 ≤ xs[s.length] by omega, show xs[s.length] ≤ 1099511627776 by omega])
    (fun s st h => by
      obtain ⟨_, h⟩ := h
      obtain ⟨tm, H, b⟩ := st
      simp only [bodyOf, Go.Proofs.Try.f24, Option.getD_some, loopsOf, rangesOf, List.nil_append, List.append_nil, List.cons_append, List.getElem?_cons_zero, List.getElem?_cons_succ]
      simp only [go_sem] at h
      obtain ⟨h1, h5, h6, rfl, rfl⟩ := h
      simp [go_sem, h1, h5, h6])
    (fun r => nomatch r)
  simp only [bodyOf, Go.Proofs.Try.f24, Option.getD_some, loopsOf, rangesOf, List.nil_append, List.append_nil, List.cons_append, List.getElem?_cons_zero, List.getElem?_cons_succ] at hR
  rw [foldE_map] at hR
  simp [go_sem] at hR
  simp [go_sem, freeze_os, h1, h0, hR, mNew]

end Go.Proofs.Ytlphdiccffnckaa
