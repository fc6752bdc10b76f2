/- Texts put together: Imb, Imc, Imd, Joi. -/
import Derived.Test.YtlphdiccffnckaaPah
import Derived.Test.YtlphdiccffnckaaRows
import Derived.Test.YtlphdiccffnckaaPae

/- Layer 7: New and Check. -/
namespace Go.Proofs.Ytlphdiccffnckaa
open Go Go.Abs


theorem f178_spec (v : Vol) (Y : List YF) : callS ev fs 178 [zVol v] [] Y = some (.ret (zI v.length), []) := by
  refine callS_by f178_eq rfl ?_
  simp only [bodyOf, Go.Proofs.Try.f178, Option.getD_some]
  simp [go_sem]

theorem f177_spec (im : Img) (g : Nat) (q : Vol → Int) (hl : im.length < 100000000)
    (hg : ∀ x ∈ im, callS ev fs g [zVol x] [] [] = some (.ret (zI (q x)), [])) (Y : List YF) :
    callS ev fs 177 [zImg im, .fn g []] [] Y = some (.ret (zInts (im.map q)), []) := by
  refine callS_by f177_eq rfl ?_
  simp only [bodyOf, Go.Proofs.Try.f177, Option.getD_some]
  have hroom : room im.length 8 = true := room_ok (by omega) (by omega) (by omega)
  obtain ⟨R, hR⟩ := fold_loop (E := ev) (C := callS ev fs) (Y := Y) (w := w177) (a := (loopsOf (bodyOf Go.Proofs.Try.f177))[0]?.getD .skip) (b := 0) 
    im (fun _ s x => .inl (s ++ [q x])) ([] : List Int) (ex := fun (r : Empty) => nomatch r)
    (fun i s st => s.length = i ∧ Live [(1, .fn g []), (5, .os 0 0 i i), (11, zImg im), (12, zI im.length), (13, zI i)] [.own i 1 (s.map fun n => [zI n])] 0 st)
    (fun s => Live [(5, .os 0 0 im.length im.length)] [.own im.length 1 (s.map fun n => [zI n])] 0) (fun r => nomatch r)
    (fun i s st hi h => by
      obtain ⟨rfl, h⟩ := h
      obtain ⟨tm, H, b⟩ := st
      simp only [bodyOf, Go.Proofs.Try.f177, Option.getD_some, loopsOf, rangesOf, List.nil_append, List.append_nil, List.cons_append, List.getElem?_cons_zero, List.getElem?_cons_succ]
      simp only [go_sem] at h
      obtain ⟨h1, h5, h11, h12, h13, rfl, rfl⟩ := h
      have hgx := hg im[s.length] (List.getElem_mem hi)
      simp only [go_sem] at hgx
      have hr : room (s.length + 1) 8 = true := room_ok (by omega) (by omega) (by omega)
      simp [go_sem, h1, h5, h11, h12, h13, hi, hgx, hr, show s.length < 1000000000 by omega])
    (fun s st h => by
      obtain ⟨_, h⟩ := h
      obtain ⟨tm, H, b⟩ := st
      simp only [bodyOf, Go.Proofs.Try.f177, Option.getD_some, loopsOf, rangesOf, List.nil_append, List.append_nil, List.cons_append, List.getElem?_cons_zero, List.getElem?_cons_succ]
      simp only [go_sem] at h
      obtain ⟨h1, h5, h11, h12, h13, rfl, rfl⟩ := h
      simp [go_sem, h1, h5, h11, h12, h13])
    (fun r => nomatch r)
  simp only [bodyOf, Go.Proofs.Try.f177, Option.getD_some, loopsOf, rangesOf, List.nil_append, List.append_nil, List.cons_append, List.getElem?_cons_zero, List.getElem?_cons_succ] at hR
  rw [foldE_map] at hR
  simp [go_sem] at hR
  simp [go_sem, freeze_os, hR, hroom, show im.length ≤ 1099511627776 by omega]

theorem f93_spec (im : Img) (hl : im.length < 100000000) (Y : List YF) : callS ev fs 93 [zImg im] [] Y = some (.ret (zInts (im.map fun v => (v.length : Int))), []) := by
  refine callS_by f93_eq rfl ?_
  simp only [bodyOf, Go.Proofs.Try.f93, Option.getD_some]
  have h := f177_spec im 178 (fun v => v.length) hl (fun x _ => f178_spec x []) []
  simp only [go_sem] at h
  simp [go_sem, h]

def mCheck (im : Img) : Int := mSizes (im.map fun v => (v.length : Int))

theorem f26_spec (im : Img) (hl : im.length < 100000000) (Y : List YF) : callS ev fs 26 [zImg im] [] Y = some (.ret (zI (mCheck im)), []) := by
  refine callS_by f26_eq rfl ?_
  simp only [bodyOf, Go.Proofs.Try.f26, Option.getD_some]
  have h1 := f93_spec im hl []
  have h2 := f88_spec (im.map fun v => (v.length : Int)) []
  simp only [go_sem, List.map_map] at h1 h2
  simp [go_sem, h1, h2, mCheck]

theorem f51_spec (im : Img) (hl : im.length < 100000000) (Y : List YF) : callS ev fs 51 [zImg im] [] Y = some (.ret (zInts (im.map fun v => (v.length : Int))), []) := by
  refine callS_by f51_eq rfl ?_
  simp only [bodyOf, Go.Proofs.Try.f51, Option.getD_some]
  obtain ⟨R, hR⟩ := fold_loop (E := ev) (C := callS ev fs) (Y := Y) (w := w51) (a := (loopsOf (bodyOf Go.Proofs.Try.f51))[0]?.getD .skip) (b := 0) 
    im (fun _ s x => .inl (s ++ [(x.length : Int)])) ([] : List Int) (ex := fun (r : Empty) => nomatch r)
    (fun i s st => s.length = i ∧ Live [(0, zImg im), (3, .os 0 0 i i), (4, zI i)] [.own i 1 (s.map fun n => [zI n])] 0 st)
    (fun s => Live [(3, .os 0 0 im.length im.length)] [.own im.length 1 (s.map fun n => [zI n])] 0) (fun r => nomatch r)
    (fun i s st hi h => by
      obtain ⟨rfl, h⟩ := h
      obtain ⟨tm, H, b⟩ := st
      simp only [bodyOf, Go.Proofs.Try.f51, Option.getD_some, loopsOf, rangesOf, List.nil_append, List.append_nil, List.cons_append, List.getElem?_cons_zero, List.getElem?_cons_succ]
      simp only [go_sem] at h
      obtain ⟨h0, h3, h4, rfl, rfl⟩ := h
      have hr : room (s.length + 1) 8 = true := room_ok (by omega) (by omega) (by omega)
      simp [go_sem, h0, h3, h4, hi, hr, show s.length < 1000000000 by omega])
    (fun s st h => by
      obtain ⟨_, h⟩ := h
      obtain ⟨tm, H, b⟩ := st
      simp only [bodyOf, Go.Proofs.Try.f51, Option.getD_some, loopsOf, rangesOf, List.nil_append, List.append_nil, List.cons_append, List.getElem?_cons_zero, List.getElem?_cons_succ]
      simp only [go_sem] at h
      obtain ⟨h0, h3, h4, rfl, rfl⟩ := h
      simp [go_sem, h0, h3, h4])
    (fun r => nomatch r)
  simp only [bodyOf, Go.Proofs.Try.f51, Option.getD_some, loopsOf, rangesOf, List.nil_append, List.append_nil, List.cons_append, List.getElem?_cons_zero, List.getElem?_cons_succ] at hR
  rw [foldE_map] at hR
  simp [go_sem] at hR
  simp [go_sem, freeze_os, hR]

theorem f27_spec (im : Img) (hl : im.length < 100000000) (Y : List YF) : callS ev fs 27 [zImg im] [] Y = some (.ret (zI (mCheck im)), []) := by
  refine callS_by f27_eq rfl ?_
  simp only [bodyOf, Go.Proofs.Try.f27, Option.getD_some]
  have h1 := f51_spec im hl []
  have h2 := f91_spec (im.map fun v => (v.length : Int)) []
  simp only [go_sem, List.map_map] at h1 h2
  simp [go_sem, h1, h2, mCheck]

def zSecs (n : Int) : Vol := List.replicate n.toNat ⟨List.replicate 8 0, rfl⟩
theorem f90_spec (n : Int) (h0 : 0 ≤ n) (h1 : n < 10000) (Y : List YF) : callS ev fs 90 [zI n] [] Y = some (.ret (zVol (zSecs n)), []) := by
  refine callS_by f90_eq rfl ?_
  simp only [bodyOf, Go.Proofs.Try.f90, Option.getD_some]
  have hr : room n.toNat 8 = true := room_ok (by omega) (by omega) (by omega)
  simp [go_sem, h0, hr, show n ≤ 1099511627776 by omega, zSecs, secRow]

theorem f89_spec (xs : List Int) (g : Nat) (q : Int → Vol) (hl : xs.length < 100000000)
    (hg : ∀ x ∈ xs, callS ev fs g [zI x] [] [] = some (.ret (zVol (q x)), [])) (Y : List YF) :
    callS ev fs 89 [zInts xs, .fn g []] [] Y = some (.ret (zImg (xs.map q)), []) := by
  refine callS_by f89_eq rfl ?_
  simp only [bodyOf, Go.Proofs.Try.f89, Option.getD_some]
  have hroom : room xs.length 24 = true := room_ok (by omega) (by omega) (by omega)
  obtain ⟨R, hR⟩ := fold_loop (E := ev) (C := callS ev fs) (Y := Y) (w := w89) (a := (loopsOf (bodyOf Go.Proofs.Try.f89))[0]?.getD .skip) (b := 0) 
    xs (fun _ s x => .inl (s ++ [q x])) ([] : Img) (ex := fun (r : Empty) => nomatch r)
    (fun i s st => s.length = i ∧ Live [(1, .fn g []), (5, .os 0 0 i i), (11, zInts xs), (12, zI xs.length), (13, zI i)] [.own i 1 (s.map fun v => [zVol v])] 0 st)
    (fun s => Live [(5, .os 0 0 xs.length xs.length)] [.own xs.length 1 (s.map fun v => [zVol v])] 0) (fun r => nomatch r)
    (fun i s st hi h => by
      obtain ⟨rfl, h⟩ := h
      obtain ⟨tm, H, b⟩ := st
      simp only [bodyOf, Go.Proofs.Try.f89, Option.getD_some, loopsOf, rangesOf, List.nil_append, List.append_nil, List.cons_append, List.getElem?_cons_zero, List.getElem?_cons_succ]
      simp only [go_sem] at h
      obtain ⟨h1, h5, h11, h12, h13, rfl, rfl⟩ := h
      have hgx := hg xs[s.length] (List.getElem_mem hi)
      simp only [go_sem] at hgx
      have hr : room (s.length + 1) 24 = true := room_ok (by omega) (by omega) (by omega)
      simp [go_sem, h1, h5, h11, h12, h13, hi, hgx, hr, show s.length < 1000000000 by omega])
    (fun s st h => by
      obtain ⟨_, h⟩ := h
      obtain ⟨tm, H, b⟩ := st
      simp only [bodyOf, Go.Proofs.Try.f89, Option.getD_some, loopsOf, rangesOf, List.nil_append, List.append_nil, List.cons_append, List.getElem?_cons_zero, List.getElem?_cons_succ]
      simp only [go_sem] at h
      obtain ⟨h1, h5, h11, h12, h13, rfl, rfl⟩ := h
      simp [go_sem, h1, h5, h11, h12, h13])
    (fun r => nomatch r)
  simp only [bodyOf, Go.Proofs.Try.f89, Option.getD_some, loopsOf, rangesOf, List.nil_append, List.append_nil, List.cons_append, List.getElem?_cons_zero, List.getElem?_cons_succ] at hR
  rw [foldE_map] at hR
  simp [go_sem] at hR
  simp [go_sem, freeze_os, hR, hroom, show xs.length ≤ 1099511627776 by omega]

theorem any_bad {xs : List Int} (h : xs.any badSize = false) : ∀ x ∈ xs, 1 ≤ x ∧ x ≤ 4096 := fun x hx => by
  have := List.any_eq_false.1 h x hx
  simp only [badSize, Bool.or_eq_true, decide_eq_true_eq, not_or] at this
  omega
theorem mSizes_zero {xs : List Int} (h : mSizes xs = 0) : 1 ≤ xs.length ∧ xs.length ≤ 8 ∧ ∀ x ∈ xs, 1 ≤ x ∧ x ≤ 4096 := by
  unfold mSizes at h
  split at h
  · simp at h
  · split at h
    · simp at h
    · rename_i h2 h3
      exact ⟨by omega, by omega, any_bad (by simpa using h3)⟩

/-- The image of zero sectors. -/
def mNew (xs : List Int) : AV := if mSizes xs = 0 then zImg (xs.map zSecs) else .sc (.slice none 0 0)

theorem f23_spec (xs : List Int) (Y : List YF) : callS ev fs 23 [zInts xs] [] Y = some (.ret (.tup [mNew xs, zI (mSizes xs)]), []) := by
  refine callS_by f23_eq rfl ?_
  simp only [bodyOf, Go.Proofs.Try.f23, Option.getD_some]
  have h1 := f88_spec xs []
  simp only [go_sem] at h1
  by_cases h0 : mSizes xs = 0
  · obtain ⟨a, b, c⟩ := mSizes_zero h0
    have h2 := f89_spec xs 90 zSecs (by omega) (fun x hx => f90_spec x (by have := c x hx; omega) (by have := c x hx; omega) []) []
    simp only [go_sem, List.map_map] at h2
    simp [go_sem, h1, h0, h2, mNew]
  · simp [go_sem, h1, h0, mNew]

theorem f24_spec (xs : List Int) (Y : List YF) : callS ev fs 24 [zInts xs] [] Y = some (.ret (.tup [mNew xs, zI (mSizes xs)]), []) := by
  refine callS_by f24_eq rfl ?_
  simp only [bodyOf, Go.Proofs.Try.f24, Option.getD_some]
  have h1 := f91_spec xs []
  simp only [go_sem] at h1
  by_cases h0 : ¬ mSizes xs = 0
  · simp [go_sem, h1, h0, mNew]
  replace h0 : mSizes xs = 0 := by omega
  obtain ⟨a, b, c⟩ := mSizes_zero h0
  obtain ⟨R, hR⟩ := fold_loop (E := ev) (C := callS ev fs) (Y := Y) (w := w24) (a := (loopsOf (bodyOf Go.Proofs.Try.f24))[0]?.getD .skip) (b := 0) 
    xs (fun _ s x => .inl (s ++ [zSecs x])) ([] : Img) (ex := fun (r : Empty) => nomatch r)
    (fun i s st => s.length = i ∧ Live [(0, zInts xs), (5, .os 0 0 i i), (6, zI i)] [.own i 1 (s.map fun v => [zVol v])] 0 st)
    (fun s => Live [(5, .os 0 0 xs.length xs.length)] [.own xs.length 1 (s.map fun v => [zVol v])] 0) (fun r => nomatch r)
    (fun i s st hi h => by
      obtain ⟨rfl, h⟩ := h
      obtain ⟨tm, H, b⟩ := st
      simp only [bodyOf, Go.Proofs.Try.f24, Option.getD_some, loopsOf, rangesOf, List.nil_append, List.append_nil, List.cons_append, List.getElem?_cons_zero, List.getElem?_cons_succ]
      simp only [go_sem] at h
      obtain ⟨h1, h5, h6, rfl, rfl⟩ := h
      have hx := c xs[s.length] (List.getElem_mem hi)
      have hr : room (s.length + 1) 24 = true := room_ok (by omega) (by omega) (by omega)
      have hr2 : room xs[s.length].toNat 8 = true := room_ok (by omega) (by omega) (by omega)
      simp [go_sem, h1, h5, h6, hi, hr, hr2, zSecs, secRow, show s.length < 1000000000 by omega, show 0 ≤ xs[s.length] by omega, show xs[s.length] ≤ 1099511627776 by omega])
    (fun s st h => by
      obtain ⟨_, h⟩ := h
      obtain ⟨tm, H, b⟩ := st
      simp only [bodyOf, Go.Proofs.Try.f24, Option.getD_some, loopsOf, rangesOf, List.nil_append, List.append_nil, List.cons_append, List.getElem?_cons_zero, List.getElem?_cons_succ]
      simp only [go_sem] at h
      obtain ⟨h1, h5, h6, rfl, rfl⟩ := h
      simp [go_sem, h1, h5, h6])
    (fun r => nomatch r)
  simp only [bodyOf, Go.Proofs.Try.f24, Option.getD_some, loopsOf, rangesOf, List.nil_append, List.append_nil, List.cons_append, List.getElem?_cons_zero, List.getElem?_cons_succ] at hR
  rw [foldE_map] at hR
  simp [go_sem] at hR
  simp [go_sem, freeze_os, h1, h0, hR, mNew]

end Go.Proofs.Ytlphdiccffnckaa

/- Layer 7: images compared. -/
namespace Go.Proofs.Ytlphdiccffnckaa
open Go Go.Abs

theorem f92_spec (a b : Vol) (hl : a.length < 1000000000) (Y : List YF) : callS ev fs 92 [zVol a, zVol b] [] Y = some (.ret (zB (decide (a = b))), []) := by
  refine callS_by f92_eq rfl ?_
  simp only [bodyOf, Go.Proofs.Try.f92, Option.getD_some]
  by_cases h1 : a.length ≠ b.length
  · have hm : ¬ a = b := fun h => h1 (by rw [h])
    simp [go_sem, h1, hm, Int.ofNat_inj]
  replace h1 : a.length = b.length := by omega
  obtain ⟨R, hR⟩ := fold_loop (E := ev) (C := callS ev fs) (Y := Y) (w := {}) (a := (loopsOf (bodyOf Go.Proofs.Try.f92))[0]?.getD .skip) (b := 0) 
    a (fun i (_ : Unit) x => if some x = b[i]? then .inl () else .inr ()) () (ex := fun _ => .ret)
    (fun i _ => Live [(0, zVol a), (1, zVol b), (5, zI i)] [] 0) (fun _ => Live [] [] 0) (fun _ => Live [(4, zB false)] [] 0)
    (fun i s st hi h => by
      obtain ⟨tm, H, b⟩ := st
      simp only [bodyOf, Go.Proofs.Try.f92, Option.getD_some, loopsOf, rangesOf, List.nil_append, List.append_nil, List.cons_append, List.getElem?_cons_zero, List.getElem?_cons_succ]
      simp only [go_sem] at h
      obtain ⟨h0, h1', h5, rfl, rfl⟩ := h
      have hib : i < b.length := by omega
      by_cases hp : a[i] = b[i]
      · simp [go_sem, h0, h1', h5, hi, hib, hp, show i < 1000000000 by omega]
      · simp [go_sem, h0, h1', h5, hi, hib, hp])
    (fun s st h => by
      obtain ⟨tm, H, b⟩ := st
      simp only [bodyOf, Go.Proofs.Try.f92, Option.getD_some, loopsOf, rangesOf, List.nil_append, List.append_nil, List.cons_append, List.getElem?_cons_zero, List.getElem?_cons_succ]
      simp only [go_sem] at h
      obtain ⟨h0, h1', h5, rfl, rfl⟩ := h
      simp [go_sem, h0, h1', h5])
    (fun _ h => by cases h)
  simp only [bodyOf, Go.Proofs.Try.f92, Option.getD_some, loopsOf, rangesOf, List.nil_append, List.append_nil, List.cons_append, List.getElem?_cons_zero, List.getElem?_cons_succ] at hR
  rw [foldE_eq b a 0 (by omega), List.drop_zero] at hR
  by_cases hab : a = b
  · simp [go_sem, hab] at hR
    simp [go_sem, hab, hR]
  · simp [go_sem, hab] at hR
    simp [go_sem, hab, h1, hR]

theorem f25_spec (a b : Img) (hl : a.length < 1000000000) (hv : ∀ v ∈ a, v.length < 1000000000) (Y : List YF) : callS ev fs 25 [zImg a, zImg b] [] Y = some (.ret (zB (decide (a = b))), []) := by
  refine callS_by f25_eq rfl ?_
  simp only [bodyOf, Go.Proofs.Try.f25, Option.getD_some]
  by_cases h1 : a.length ≠ b.length
  · have hm : ¬ a = b := fun h => h1 (by rw [h])
    simp [go_sem, h1, hm, Int.ofNat_inj]
  replace h1 : a.length = b.length := by omega
  obtain ⟨R, hR⟩ := fold_loop (E := ev) (C := callS ev fs) (Y := Y) (w := {}) (a := (loopsOf (bodyOf Go.Proofs.Try.f25))[0]?.getD .skip) (b := 0) 
    a (fun i (_ : Unit) x => if some x = b[i]? then .inl () else .inr ()) () (ex := fun _ => .ret)
    (fun i _ => Live [(0, zImg a), (1, zImg b), (5, zI i)] [] 0) (fun _ => Live [] [] 0) (fun _ => Live [(4, zB false)] [] 0)
    (fun i s st hi h => by
      obtain ⟨tm, H, b⟩ := st
      simp only [bodyOf, Go.Proofs.Try.f25, Option.getD_some, loopsOf, rangesOf, List.nil_append, List.append_nil, List.cons_append, List.getElem?_cons_zero, List.getElem?_cons_succ]
      simp only [go_sem] at h
      obtain ⟨h0, h1', h5, rfl, rfl⟩ := h
      have hib : i < b.length := by omega
      have hc := f92_spec a[i] b[i] (hv _ (List.getElem_mem hi)) []
      simp only [go_sem] at hc
      by_cases hp : a[i] = b[i]
      · simp [hp] at hc
        simp [go_sem, h0, h1', h5, hi, hib, hp, hc, show i < 1000000000 by omega]
      · simp [hp] at hc
        simp [go_sem, h0, h1', h5, hi, hib, hp, hc])
    (fun s st h => by
      obtain ⟨tm, H, b⟩ := st
      simp only [bodyOf, Go.Proofs.Try.f25, Option.getD_some, loopsOf, rangesOf, List.nil_append, List.append_nil, List.cons_append, List.getElem?_cons_zero, List.getElem?_cons_succ]
      simp only [go_sem] at h
      obtain ⟨h0, h1', h5, rfl, rfl⟩ := h
      simp [go_sem, h0, h1', h5])
    (fun _ h => by cases h)
  simp only [bodyOf, Go.Proofs.Try.f25, Option.getD_some, loopsOf, rangesOf, List.nil_append, List.append_nil, List.cons_append, List.getElem?_cons_zero, List.getElem?_cons_succ] at hR
  rw [foldE_eq b a 0 (by omega), List.drop_zero] at hR
  by_cases hab : a = b
  · simp [go_sem, hab] at hR
    simp [go_sem, hab, hR]
  · simp [go_sem, hab] at hR
    simp [go_sem, hab, h1, hR]

theorem few_len {im : Img} (h : mFew im = true) : im.length ≤ 9 ∧ ∀ v ∈ im, v.length ≤ 24 := by
  simpa [mFew] using h

theorem f22_spec (Y : List YF) : callN ev fs 40 22 [] [] [] = some (.ret (zB true), []) := by kernel_rfl
theorem f22_call : callS ev fs 22 [] [] [] = some (.ret (zB true), []) := callS_iff.2 ⟨40, f22_spec []⟩

theorem f25_nil' : callN ev fs 10 25 [.sc (.slice none 0 0), .sc (.slice none 0 0)] [] [] = some (.ret (zB true), []) := by kernel_rfl
theorem f25_nil : callS ev fs 25 [.sc (.slice none 0 0), .sc (.slice none 0 0)] [] [] = some (.ret (zB true), []) := callS_iff.2 ⟨10, f25_nil'⟩

theorem zSecs_len (n : Int) : (zSecs n).length = n.toNat := by simp [zSecs]

theorem f3_spec (sizes : List Int) (im : Img) : callS ev fs 3 [zInts sizes, zImg im] [] [] = some (.ret (zB true), []) := by
  refine callS_by f3_eq rfl ?_
  simp only [bodyOf, Go.Proofs.Try.f3, Option.getD_some]
  have hw := f22_call
  have h19 := f19_spec im []
  simp only [go_sem] at hw h19
  cases hf : mFew im
  · simp [go_sem, h19, hf, hw]
  obtain ⟨i1, i2⟩ := few_len hf
  by_cases h1 : 20 < sizes.length
  · simp [go_sem, h19, hf, hw, h1]
  have h20 := f20_spec sizes 21 [] (fun n => decide (100 < n) && decide (n < 4096)) rfl (by omega) (fun x _ => f21_spec x []) []
  simp only [go_sem] at h20
  cases ha : sizes.any (fun n => decide (100 < n) && decide (n < 4096))
  case true =>
    rw [ha] at h20
    simp [go_sem, h19, hf, hw, h1, h20]
  rw [ha] at h20
  have h23 := f23_spec sizes []
  have h24 := f24_spec sizes []
  have h26 := f26_spec im (by omega) []
  have h27 := f27_spec im (by omega) []
  by_cases h0 : mSizes sizes = 0
  · obtain ⟨q1, q2, q3⟩ := mSizes_zero h0
    have h25 := f25_spec (sizes.map zSecs) (sizes.map zSecs) (by simp; omega) (fun v hv => by
      obtain ⟨n, hn, rfl⟩ := List.mem_map.1 hv
      rw [zSecs_len]
      have := q3 n hn
      omega) []
    simp only [go_sem, mNew, h0, if_true, List.map_map] at h23 h24 h25 h26 h27
    simp [go_sem, h19, hf, hw, h1, h20, h23, h24, h25, h26, h27]
  · have h25 := f25_nil
    simp only [go_sem, mNew, h0, if_false, List.map_map] at h23 h24 h25 h26 h27
    simp [go_sem, h19, hf, hw, h1, h20, h23, h24, h25, h26, h27]
end Go.Proofs.Ytlphdiccffnckaa

/- Layer 7: what fits. -/
namespace Go.Proofs.Ytlphdiccffnckaa
open Go Go.Abs

/-- A write. -/
structure Wr where
  v : Int
  s : Int
  d : Vol
  deriving DecidableEq
@[go_sem] def wrRow (w : Wr) : List AV := [.sc (.int .i64 w.v), .sc (.int .i64 w.s), .sl false 8 (w.d.map secRow)]
@[go_sem] def zWrs (l : List Wr) : AV := .sl false 3 (l.map fun w => [.sc (.int .i64 w.v), .sc (.int .i64 w.s), .sl false 8 (w.d.map secRow)])

/-- An extent. -/
structure Ext where
  s : Int
  n : Int
  deriving DecidableEq
@[go_sem] def extRow (e : Ext) : List AV := [.sc (.int .i64 e.s), .sc (.int .i64 e.n)]
@[go_sem] def zExt (e : Ext) : AV := .agg [.sc (.int .i64 e.s), .sc (.int .i64 e.n)]

theorem f95_spec (w : Wr) (Y : List YF) : callS ev fs 95 [.agg (wrRow w)] [] Y = some (.ret (zB (decide (30 < w.d.length))), []) := by
  refine callS_by f95_eq rfl ?_
  simp only [bodyOf, Go.Proofs.Try.f95, Option.getD_some]
  simp [go_sem]

theorem f179_spec (xs : List Wr) (g : Nat) (p : Wr → Bool) (hl : xs.length < 1000000000)
    (hg : ∀ x ∈ xs, callS ev fs g [.agg (wrRow x)] [] [] = some (.ret (zB (p x)), [])) (Y : List YF) :
    callS ev fs 179 [zWrs xs, .fn g []] [] Y = some (.ret (zI (match xs.findIdx? p with | some j => (j : Int) | none => -1)), []) := by
  refine callS_by f179_eq rfl ?_
  simp only [bodyOf, Go.Proofs.Try.f179, Option.getD_some]
  obtain ⟨R, hR⟩ := fold_loop (E := ev) (C := callS ev fs) (Y := Y) (w := {}) (a := (loopsOf (bodyOf Go.Proofs.Try.f179))[0]?.getD .skip) (b := 0) 
    xs (fun i (_ : Unit) x => if p x = true then .inr i else .inl ()) () (ex := fun _ => .ret)
    (fun i _ => Live [(0, zWrs xs), (1, .fn g []), (7, zI xs.length), (8, zI i)] [] 0) (fun _ => Live [] [] 0) (fun j => Live [(4, zI j)] [] 0)
    (fun i s st hi h => by
      obtain ⟨tm, H, b⟩ := st
      simp only [bodyOf, Go.Proofs.Try.f179, Option.getD_some, loopsOf, rangesOf, List.nil_append, List.append_nil, List.cons_append, List.getElem?_cons_zero, List.getElem?_cons_succ]
      simp only [go_sem] at h
      obtain ⟨h0, h1, h7, h8, rfl, rfl⟩ := h
      have hgx := hg xs[i] (List.getElem_mem hi)
      simp only [go_sem] at hgx
      cases hp : p xs[i] <;> simp [go_sem, h0, h1, h7, h8, hi, hp, hgx, show i < 1000000000 by omega])
    (fun s st h => by
      obtain ⟨tm, H, b⟩ := st
      simp only [bodyOf, Go.Proofs.Try.f179, Option.getD_some, loopsOf, rangesOf, List.nil_append, List.append_nil, List.cons_append, List.getElem?_cons_zero, List.getElem?_cons_succ]
      simp only [go_sem] at h
      obtain ⟨h0, h1, h7, h8, rfl, rfl⟩ := h
      simp [go_sem, h7, h8])
    (fun _ h => by cases h)
  simp only [bodyOf, Go.Proofs.Try.f179, Option.getD_some, loopsOf, rangesOf, List.nil_append, List.append_nil, List.cons_append, List.getElem?_cons_zero, List.getElem?_cons_succ] at hR
  rw [foldE_idx] at hR
  cases hf : xs.findIdx? p <;> simp [go_sem, hf] at hR <;> simp [go_sem, hR]

theorem f94_spec (xs : List Wr) (g : Nat) (p : Wr → Bool) (hl : xs.length < 1000000000)
    (hg : ∀ x ∈ xs, callS ev fs g [.agg (wrRow x)] [] [] = some (.ret (zB (p x)), [])) (Y : List YF) :
    callS ev fs 94 [zWrs xs, .fn g []] [] Y = some (.ret (zB (xs.any p)), []) := by
  refine callS_by f94_eq rfl ?_
  simp only [bodyOf, Go.Proofs.Try.f94, Option.getD_some]
  have h := f179_spec xs g p hl hg []
  simp only [go_sem] at h
  have hm : xs.any p = (xs.findIdx? p).isSome := by rw [List.findIdx?_isSome]
  rw [hm]
  cases hf : xs.findIdx? p <;> simp [go_sem, hf] at h <;> simp [go_sem, h]

def mFewW (l : List Wr) : Bool := decide (l.length ≤ 40) && !l.any fun w => decide (30 < w.d.length)
theorem f28_spec (l : List Wr) (Y : List YF) : callS ev fs 28 [zWrs l] [] Y = some (.ret (zB (mFewW l)), []) := by
  refine callS_by f28_eq rfl ?_
  simp only [bodyOf, Go.Proofs.Try.f28, Option.getD_some]
  by_cases h1 : l.length ≤ 40
  · have h := f94_spec l 95 (fun w => decide (30 < w.d.length)) (by omega) (fun x _ => f95_spec x []) []
    simp only [go_sem] at h
    simp [go_sem, h1, h, mFewW]
  · simp [go_sem, h1, mFewW]
theorem fewW {l : List Wr} (h : mFewW l = true) : l.length ≤ 40 ∧ ∀ w ∈ l, w.d.length ≤ 30 := by
  simpa [mFewW] using h

/-- What a write is told at a correct image. -/
def mFits (im : Img) (w : Wr) : Int :=
  if w.v < 0 ∨ w.v ≥ im.length then 7 else if w.d = [] then 1 else if w.s < 0 ∨ w.s > ((im[w.v.toNat]?).getD []).length - w.d.length then 2 else 0

theorem f96_spec (im : Img) (w : Wr) (hi : ∀ x ∈ im, x.length < 1000000000) (hd : w.d.length < 1000000000) (Y : List YF) :
    callS ev fs 96 [zImg im, .agg (wrRow w)] [] Y = some (.ret (zI (mFits im w)), []) := by
  obtain ⟨v, s, d⟩ := w
  simp only at hd
  refine callS_by f96_eq rfl ?_
  simp only [bodyOf, Go.Proofs.Try.f96, Option.getD_some]
  by_cases h1 : v < 0
  · simp [go_sem, h1, mFits]
  by_cases h2 : ↑im.length ≤ v
  · simp [go_sem, h1, h2, mFits]
  obtain ⟨n, rfl⟩ : ∃ n : Nat, v = n := ⟨v.toNat, by omega⟩
  have hn : n < im.length := by omega
  have hrl := hi im[n] (List.getElem_mem hn)
  by_cases h3 : d = []
  · simp [go_sem, h2, h3, mFits, hn]
  by_cases h4 : s < 0
  · simp [go_sem, h2, h3, h4, mFits, hn]
  by_cases h5 : (im[n].length : Int) - d.length < s
  · simp [go_sem, h2, h3, h4, h5, mFits, hn, wrap64 (x := (im[n].length : Int) - d.length) (by omega)]
  · simp [go_sem, h2, h3, h4, h5, mFits, hn, wrap64 (x := (im[n].length : Int) - d.length) (by omega)]

theorem f97_spec (im : Img) (w : Wr) (hi : ∀ x ∈ im, x.length < 1000000000) (hd : w.d.length < 1000000000) (Y : List YF) :
    callS ev fs 97 [zInts (im.map fun v => (v.length : Int)), .agg (wrRow w)] [] Y = some (.ret (zI (mFits im w)), []) := by
  obtain ⟨v, s, d⟩ := w
  simp only at hd
  refine callS_by f97_eq rfl ?_
  simp only [bodyOf, Go.Proofs.Try.f97, Option.getD_some]
  by_cases h1 : v < 0
  · simp [go_sem, h1, mFits]
  by_cases h2 : ↑im.length ≤ v
  · simp [go_sem, h1, h2, mFits]
  obtain ⟨n, rfl⟩ : ∃ n : Nat, v = n := ⟨v.toNat, by omega⟩
  have hn : n < im.length := by omega
  have hrl := hi im[n] (List.getElem_mem hn)
  by_cases h3 : d = []
  · simp [go_sem, h2, h3, mFits, hn]
  have hdl : 0 < d.length := List.length_pos_iff.2 h3
  by_cases h4 : s < 0
  · simp [go_sem, h2, h3, h4, mFits, hn]
  by_cases h6 : ↑im[n].length ≤ s
  · simp [go_sem, h2, h3, h4, h6, mFits, hn, show (im[n].length : Int) - d.length < s by omega]
  have hwr := wrap64 (x := (im[n].length : Int) - s) (by omega)
  by_cases h5 : (im[n].length : Int) - d.length < s
  · simp [go_sem, h2, h3, h4, h5, h6, mFits, hn, hwr, show (im[n].length : Int) - s < d.length by omega]
  · simp [go_sem, h2, h3, h4, h5, h6, mFits, hn, hwr, show ¬ (im[n].length : Int) - s < d.length by omega]

/-- What a write is told at any image. -/
def mFit (im : Img) (w : Wr) : Int := if mCheck im = 0 then mFits im w else mCheck im

theorem f29_spec (im : Img) (w : Wr) (hl : im.length < 100000000) (hi : ∀ x ∈ im, x.length < 1000000000) (hd : w.d.length < 1000000000) (Y : List YF) :
    callS ev fs 29 [zImg im, .agg (wrRow w)] [] Y = some (.ret (zI (mFit im w)), []) := by
  refine callS_by f29_eq rfl ?_
  simp only [bodyOf, Go.Proofs.Try.f29, Option.getD_some]
  have h1 := f26_spec im hl []
  have h2 := f96_spec im w hi hd []
  simp only [go_sem] at h1 h2
  by_cases h0 : mCheck im = 0
  · simp [go_sem, h1, h2, h0, mFit]
  · simp [go_sem, h1, h0, mFit]

theorem f30_spec (im : Img) (w : Wr) (hl : im.length < 100000000) (hi : ∀ x ∈ im, x.length < 1000000000) (hd : w.d.length < 1000000000) (Y : List YF) :
    callS ev fs 30 [zImg im, .agg (wrRow w)] [] Y = some (.ret (zI (mFit im w)), []) := by
  refine callS_by f30_eq rfl ?_
  simp only [bodyOf, Go.Proofs.Try.f30, Option.getD_some]
  have h1 := f27_spec im hl []
  have h2 := f97_spec im w hi hd []
  have h3 := f51_spec im hl []
  simp only [go_sem, List.map_map] at h1 h2 h3
  by_cases h0 : mCheck im = 0
  · simp [go_sem, h1, h2, h3, h0, mFit]
  · simp [go_sem, h1, h0, mFit]
end Go.Proofs.Ytlphdiccffnckaa

/- From the evaluator to the statements: what is evaluated is what the program does; arguments are read. -/
namespace Go.Proofs.Ytlphdiccffnckaa
open Go Go.Abs Go.ChangeShapes Go.WideShapes Go.ChangeAt Go.RowKit

theorem Try.own : ownKnob Go.Proofs.Try.prog.godebug = none := by kernel_rfl
theorem Try.laidOut : laidOutB Go.Proofs.Try.prog = true := by kernel_rfl

theorem ut3 : Go.Proofs.Try.prog.underlying 3 = some (.int .i64) := by kernel_rfl
theorem ut4 : Go.Proofs.Try.prog.underlying 4 = some .bool := by kernel_rfl
theorem ut5 : Go.Proofs.Try.prog.underlying 5 = some (.int .u8) := by kernel_rfl
theorem ut22 : Go.Proofs.Try.prog.underlying 22 = some (.slice 3) := by kernel_rfl
theorem ut24 : Go.Proofs.Try.prog.underlying 24 = some (.slice 40) := by kernel_rfl
theorem ut40 : Go.Proofs.Try.prog.underlying 40 = some (.slice 52) := by kernel_rfl
theorem ut52 : Go.Proofs.Try.prog.underlying 52 = some (.array 8 5) := by kernel_rfl
theorem c3 : Go.Proofs.Try.prog.cellsOf 3 = 1 := by kernel_rfl
theorem c5 : Go.Proofs.Try.prog.cellsOf 5 = 1 := by kernel_rfl
theorem c40 : Go.Proofs.Try.prog.cellsOf 40 = 1 := by kernel_rfl
theorem c52 : Go.Proofs.Try.prog.cellsOf 52 = 8 := by kernel_rfl
def fieldsOfDesc : TypeDesc → Array Field
  | .struct fs => fs
  | _ => #[]
theorem ut59 : Go.Proofs.Try.prog.underlying 59 = some (.struct (fieldsOfDesc Go.Proofs.Try.t58.desc)) := by kernel_rfl
theorem ut143 : Go.Proofs.Try.prog.underlying 143 = some (.struct (fieldsOfDesc Go.Proofs.Try.t142.desc)) := by kernel_rfl
theorem eqOk : EqOk Go.Proofs.Try.prog [(52, [true, true, true, true, true, true, true, true]), (59, [true, true]), (143, [true, true, true])] := by
  intro t k hk cs ds e w h h'
  simp only [List.lookup_cons] at hk
  split at hk
  · rename_i ht
    obtain rfl := beq_iff_eq.1 ht
    cases hk
    have hi : ∃ i, Go.Proofs.Try.prog.info? 5 = some i := Option.isSome_iff_exists.1 (by kernel_rfl)
    obtain ⟨i, hi⟩ := hi
    exact eqok_array ut52 hi c5 ut5 (by kernel_rfl) cs ds e w h h'
  split at hk
  · rename_i ht
    obtain rfl := beq_iff_eq.1 ht
    cases hk
    exact eqok_struct' (n := 2) ut59 (by kernel_rfl) (by kernel_rfl) (by kernel_rfl) (by kernel_rfl) cs ds e w h h'
  split at hk
  · rename_i ht
    obtain rfl := beq_iff_eq.1 ht
    cases hk
    exact eqok_struct' (n := 3) ut143 (by kernel_rfl) (by kernel_rfl) (by kernel_rfl) (by kernel_rfl) cs ds e w h h'
  simp at hk

theorem ttOk : TOk Go.Proofs.Try.prog ev.T := ttOf_ok Go.Proofs.Try.prog _ eqOk
theorem fsOk : FOk Go.Proofs.Try.prog fs := fnOf_ok Go.Proofs.Try.prog ws
theorem mixed : Go.Proofs.Try.prog.follows .mixedOrders = true := by kernel_rfl
theorem sound : CSound Go.Proofs.Try.prog ev.G (callS ev fs) := callS_sound (E := ev) (F := fs) ttOk fsOk mixed
theorem gok (W : World) : GOk ev.G { w := W, M := fun _ => False, E := [], H := [] } := fun g => .und _

section
variable {H : Type} {enc : TypeId × Value → H} {W : World}
theorem flatMap_one {α β : Type} (f : α → β) : ∀ (l : List α), l.flatMap (fun n => [f n]) = l.map f
  | [] => rfl
  | x :: l => by rw [List.flatMap_cons, flatMap_one f l]; rfl
theorem rd_int : Rd enc Go.Proofs.Try.prog W 3 (fun n : Int => [zI n]) (fun n => IntKind.min .i64 ≤ n ∧ n ≤ IntKind.max .i64) := Rd.int ut3
theorem rd_ints : Rd enc Go.Proofs.Try.prog W 22 (fun l => [zInts l]) (fun l => l.length ≤ maxLen ∧ ∀ n ∈ l, IntKind.min .i64 ≤ n ∧ n ≤ IntKind.max .i64) := Rd.slice ut22 c3 (by decide) rd_int (fun _ _ => by simp)
theorem rd_sec : Rd enc Go.Proofs.Try.prog W 52 secRow (fun s => ∀ b ∈ s.1, IntKind.min .u8 ≤ b ∧ b ≤ IntKind.max .u8) := by
  refine Rd.map (Rd.array ut52 c5 c52 (Rd.int ut5)) (fun l => if h : l.length = 8 then ⟨l, h⟩ else ⟨List.replicate 8 0, rfl⟩) (fun l h => ?_) (fun l h => ?_)
  · simp only [h.1, dif_pos]; exact h.2
  · simp only [h.1, dif_pos, secRow]
    exact (flatMap_one _ l).symm
theorem rd_vol : Rd enc Go.Proofs.Try.prog W 40 (fun v => [zVol v]) (fun v => v.length ≤ maxLen ∧ ∀ s ∈ v, ∀ b ∈ s.1, IntKind.min .u8 ≤ b ∧ b ≤ IntKind.max .u8) := Rd.slice ut40 c52 (by decide) rd_sec (fun s _ => by simp [go_sem])
def okImg (im : Img) : Prop := im.length ≤ maxLen ∧ ∀ v ∈ im, v.length ≤ maxLen ∧ ∀ s ∈ v, ∀ b ∈ s.1, IntKind.min .u8 ≤ b ∧ b ≤ IntKind.max .u8
theorem rd_img : Rd enc Go.Proofs.Try.prog W 24 (fun im => [zImg im]) okImg := Rd.slice ut24 c40 (by decide) rd_vol (fun _ _ => by simp)

theorem cons' {P : Program} {f : Field} {fs : List Field} {off z n t' : Nat} (ht : f.type = t') (ho : f.offset = off) (hz : P.cellsOf t' = z) {A B : Type} {en : A → List AV} {good : A → Prop} {en' : B → List AV} {good' : B → Prop}
    (hf : Rd enc P W t' en good) (hr : RdF enc P W fs (off + z) en' good' n) : RdF enc P W (f :: fs) off (fun p : A × B => en p.1 ++ en' p.2) (fun p => good p.1 ∧ good' p.2) (z + n) := by
  subst ht
  exact RdF.cons ho hz hf hr
def fdOf (d : TypeDesc) (i : Nat) : Field := ((fieldsOfDesc d).toList)[i]?.getD { name := "", type := 0, offset := 0, embedded := false, tag := "", pkgPath := "", byteOffset := 0 }
theorem fl41 : (fieldsOfDesc Go.Proofs.Try.t41.desc).toList = [fdOf Go.Proofs.Try.t41.desc 0, fdOf Go.Proofs.Try.t41.desc 1, fdOf Go.Proofs.Try.t41.desc 2] := rfl
theorem fl58 : (fieldsOfDesc Go.Proofs.Try.t58.desc).toList = [fdOf Go.Proofs.Try.t58.desc 0, fdOf Go.Proofs.Try.t58.desc 1] := rfl
theorem ut38 : Go.Proofs.Try.prog.underlying 38 = some (.slice 42) := by kernel_rfl
theorem ut42 : Go.Proofs.Try.prog.underlying 42 = some (.struct (fieldsOfDesc Go.Proofs.Try.t41.desc)) := by kernel_rfl
theorem c42 : Go.Proofs.Try.prog.cellsOf 42 = 3 := by kernel_rfl
theorem c59 : Go.Proofs.Try.prog.cellsOf 59 = 2 := by kernel_rfl
def okWr (w : Wr) : Prop := (IntKind.min .i64 ≤ w.v ∧ w.v ≤ IntKind.max .i64) ∧ (IntKind.min .i64 ≤ w.s ∧ w.s ≤ IntKind.max .i64)
theorem rd_wr : Rd enc Go.Proofs.Try.prog W 42 wrRow okWr := by
  have h := cons' (enc := enc) (P := Go.Proofs.Try.prog) (W := W) (off := 0) (f := fdOf Go.Proofs.Try.t41.desc 0) (t' := 3) (z := 1) (n := 2) rfl rfl c3 rd_int (cons' (f := fdOf Go.Proofs.Try.t41.desc 1) (t' := 3) (z := 1) (n := 1) rfl rfl c3 rd_int (cons' (f := fdOf Go.Proofs.Try.t41.desc 2) (t' := 40) (z := 1) (n := 0) rfl rfl c40 rd_vol RdF.nil))
  rw [← fl41] at h
  exact Rd.map (Rd.struct ut42 c42 h) (fun p => (⟨p.1, p.2.1, p.2.2.1⟩ : Wr)) (fun p h => ⟨h.1, h.2.1⟩) (fun p h => rfl)
theorem rd_wrs : Rd enc Go.Proofs.Try.prog W 38 (fun l => [zWrs l]) (fun l => l.length ≤ maxLen ∧ ∀ w ∈ l, okWr w) := Rd.slice ut38 c42 (by decide) rd_wr (fun _ _ => by simp [wrRow])
theorem arg_wrs : Arg1 enc Go.Proofs.Try.prog W 38 zWrs (fun l => l.length ≤ maxLen ∧ ∀ w ∈ l, okWr w) := Arg1.cell (.inr (.inr ⟨_, ut38⟩)) rd_wrs
theorem arg_int : Arg1 enc Go.Proofs.Try.prog W 3 zI (fun n => IntKind.min .i64 ≤ n ∧ n ≤ IntKind.max .i64) := Arg1.cell (.inl ⟨_, ut3⟩) rd_int
@[go_sem] def zU8 (n : Int) : AV := .sc (.int .u8 n)
theorem arg_u8 : Arg1 enc Go.Proofs.Try.prog W 5 zU8 (fun n => IntKind.min .u8 ≤ n ∧ n ≤ IntKind.max .u8) := Arg1.cell (.inl ⟨_, ut5⟩) (Rd.int ut5)
def okExt (e : Ext) : Prop := (IntKind.min .i64 ≤ e.s ∧ e.s ≤ IntKind.max .i64) ∧ (IntKind.min .i64 ≤ e.n ∧ e.n ≤ IntKind.max .i64)
theorem rd_ext : Rd enc Go.Proofs.Try.prog W 59 extRow okExt := by
  have h := cons' (enc := enc) (P := Go.Proofs.Try.prog) (W := W) (off := 0) (f := fdOf Go.Proofs.Try.t58.desc 0) (t' := 3) (z := 1) (n := 1) rfl rfl c3 rd_int (cons' (f := fdOf Go.Proofs.Try.t58.desc 1) (t' := 3) (z := 1) (n := 0) rfl rfl c3 rd_int RdF.nil)
  rw [← fl58] at h
  exact Rd.map (Rd.struct ut59 c59 h) (fun p => (⟨p.1, p.2.1⟩ : Ext)) (fun p h => ⟨h.1, h.2.1⟩) (fun p h => rfl)
theorem arg_ext : Arg1 enc Go.Proofs.Try.prog W 59 zExt okExt := Arg1.agg (.inl ⟨_, ut59⟩) rd_ext
theorem arg_ints : Arg1 enc Go.Proofs.Try.prog W 22 zInts (fun l => l.length ≤ maxLen ∧ ∀ n ∈ l, IntKind.min .i64 ≤ n ∧ n ≤ IntKind.max .i64) := Arg1.cell (.inr (.inr ⟨_, ut22⟩)) rd_ints
theorem arg_img : Arg1 enc Go.Proofs.Try.prog W 24 zImg okImg := Arg1.cell (.inr (.inr ⟨_, ut24⟩)) rd_img
end
end Go.Proofs.Ytlphdiccffnckaa

