/- Layer 7: what fits. -/
import Derived.Test.YtlphdiccffnckaaImc
namespace Go.Proofs.Ytlphdiccffnckaa
open Go Go.Abs

/-- A write. -/
structure Wr where
  v : Int
  s : Int
  d : Vol
  deriving DecidableEq
@[go_sem] def wrRow (w : Wr) : List AV := [.sc (.int .i64 w.v), .sc (.int .i64 w.s), .sl false 8 (w.d.map secRow)]
@[go_sem] def zWrs (l : List Wr) : AV := .sl false 3 (l.map fun w => [.sc (.int .i64 w.v), .sc (.int .i64 w.s), .sl false 8 (w.d.map secRow)])

/-- An extent. -/
structure Ext where
  s : Int
  n : Int
  deriving DecidableEq
@[go_sem] def extRow (e : Ext) : List AV := [.sc (.int .i64 e.s), .sc (.int .i64 e.n)]
@[go_sem] def zExt (e : Ext) : AV := .agg [.sc (.int .i64 e.s), .sc (.int .i64 e.n)]

theorem f95_spec (w : Wr) (Y : List YF) : callS ev fs 95 [.agg (wrRow w)] [] Y = some (.ret (zB (decide (30 < w.d.length))), []) := by
  refine callS_by f95_eq rfl ?_
  simp only [bodyOf, Go.Proofs.Try.f95, Option.getD_some]
  simp [go_sem]

theorem f179_spec (xs : List Wr) (g : Nat) (p : Wr → Bool) (hl : xs.length < 1000000000)
    (hg : ∀ x ∈ xs, callS ev fs g [.agg (wrRow x)] [] [] = some (.ret (zB (p x)), [])) (Y : List YF) :
    callS ev fs 179 [zWrs xs, .fn g []] [] Y = some (.ret (zI (match xs.findIdx? p with | some j => (j : Int) | none => -1)), []) := by
  refine callS_by f179_eq rfl ?_
  simp only [bodyOf, Go.Proofs.Try.f179, Option.getD_some]
  obtain ⟨R, hR⟩ := fold_loop (E := ev) (C := callS ev fs) (Y := Y) (w := {}) (a := (loopsOf (bodyOf Go.Proofs.Try.f179))[0]?.getD .skip) (b := 0) 
    xs (fun i (_ : Unit) x => if p x = true then .inr i else .inl ()) () (ex := fun _ => .ret)
    (fun i _ => Live [(0, zWrs xs), (1, .fn g []), (7, zI xs.length), (8, zI i)] [] 0) (fun _ => Live [] [] 0) (fun j => Live [(4, zI j)] [] 0)
    (fun i s st hi h => by
      obtain ⟨tm, H, b⟩ := st
      simp only [bodyOf, Go.Proofs.Try.f179, Option.getD_some, loopsOf, rangesOf, List.nil_append, List.append_nil, List.cons_append, List.getElem?_cons_zero, List.getElem?_cons_succ]
      simp only [go_sem] at h
      obtain ⟨h0, h1, h7, h8, rfl, rfl⟩ := h
      have hgx := hg xs[i] (List.getElem_mem hi)
      simp only [go_sem] at hgx
      cases hp : p xs[i] <;> simp [go_sem, h0, h1, h7, h8, hi, hp, hgx, show i < 1000000000 by omega])
    (fun s st h => by
      obtain ⟨tm, H, b⟩ := st
      simp only [bodyOf, Go.Proofs.Try.f179, Option.getD_some, loopsOf, rangesOf, List.nil_append, List.append_nil, List.cons_append, List.getElem?_cons_zero, List.getElem?_cons_succ]
      simp only [go_sem] at h
      obtain ⟨h0, h1, h7, h8, rfl, rfl⟩ := h
      simp [go_sem, h7, h8])
    (fun _ h => by cases h)
  simp only [bodyOf, Go.Proofs.Try.f179, Option.getD_some, loopsOf, rangesOf, List.nil_append, List.append_nil, List.cons_append, List.getElem?_cons_zero, List.getElem?_cons_succ] at hR
  rw [foldE_idx] at hR
  cases hf : xs.findIdx? p <;> simp [go_sem, hf] at hR <;> simp [go_sem, hR]

theorem f94_spec (xs : List Wr) (g : Nat) (p : Wr → Bool) (hl : xs.length < 1000000000)
    (hg : ∀ x ∈ xs, callS ev fs g [.agg (wrRow x)] [] [] = some (.ret (zB (p x)), [])) (Y : List YF) :
    callS ev fs 94 [zWrs xs, .fn g []] [] Y = some (.ret (zB (xs.any p)), []) := by
  refine callS_by f94_eq rfl ?_
  simp only [bodyOf, Go.Proofs.Try.f94, Option.getD_some]
  have h := f179_spec xs g p hl hg []
  simp only [go_sem] at h
  have hm : xs.any p = (xs.findIdx? p).isSome := by rw [List.findIdx?_isSome]
  rw [hm]
  cases hf : xs.findIdx? p <;> simp [go_sem, hf] at h <;> simp [go_sem, h]

def mFewW (l : List Wr) : Bool := decide (l.length ≤ 40) && !l.any fun w => decide (30 < w.d.length)
theorem f28_spec (l : List Wr) (Y : List YF) : callS ev fs 28 [zWrs l] [] Y = some (.ret (zB (mFewW l)), []) := by
  refine callS_by f28_eq rfl ?_
  simp only [bodyOf, Go.Proofs.Try.f28, Option.getD_some]
  by_cases h1 : l.length ≤ 40
  · have h := f94_spec l 95 (fun w => decide (30 < w.d.length)) (by omega) (fun x _ => f95_spec x []) []
    simp only [go_sem] at h
    simp [go_sem, h1, h, mFewW]
  · simp [go_sem, h1, mFewW]
theorem fewW {l : List Wr} (h : mFewW l = true) : l.length ≤ 40 ∧ ∀ w ∈ l, w.d.length ≤ 30 := by
  simpa [mFewW] using h

/-- What a write is told at a correct image. -/
def mFits (im : Img) (w : Wr) : Int :=
  if w.v < 0 ∨ w.v ≥ im.length then 7 else if w.d = [] then 1 else if w.s < 0 ∨ w.s > ((im[w.v.toNat]?).getD []).length - w.d.length then 2 else 0

theorem f96_spec (im : Img) (w : Wr) (hi : ∀ x ∈ im, x.length < 1000000000) (hd : w.d.length < 1000000000) (Y : List YF) :
    callS ev fs 96 [zImg im, .agg (wrRow w)] [] Y = some (.ret (zI (mFits im w)), []) := by
  obtain ⟨v, s, d⟩ := w
  simp only at hd
  refine callS_by f96_eq rfl ?_
  simp only [bodyOf, Go.Proofs.Try.f96, Option.getD_some]
  by_cases h1 : v < 0
  · simp [go_sem, h1, mFits]
  by_cases h2 : ↑im.length ≤ v
  · simp [go_sem, h1, h2, mFits]
  obtain ⟨n, rfl⟩ : ∃ n : Nat, v = n := ⟨v.toNat, by omega⟩
  have hn : n < im.length := by omega
  have hrl := hi im[n] (List.getElem_mem hn)
  by_cases h3 : d = []
  · simp [go_sem, h2, h3, mFits, hn]
  by_cases h4 : s < 0
  · simp [go_sem, h2, h3, h4, mFits, hn]
  by_cases h5 : (im[n].length : Int) - d.length < s
  · simp [go_sem, h2, h3, h4, h5, mFits, hn, wrap64 (x := (im[n].length : Int) - d.length) (by omega)]
  · simp [go_sem, h2, h3, h4, h5, mFits, hn, wrap64 (x := (im[n].length : Int) - d.length) (by omega)]

theorem f97_spec (im : Img) (w : Wr) (hi : ∀ x ∈ im, x.length < 1000000000) (hd : w.d.length < 1000000000) (Y : List YF) :
    callS ev fs 97 [zInts (im.map fun v => (v.length : Int)), .agg (wrRow w)] [] Y = some (.ret (zI (mFits im w)), []) := by
  obtain ⟨v, s, d⟩ := w
  simp only at hd
  refine callS_by f97_eq rfl ?_
  simp only [bodyOf, Go.Proofs.Try.f97, Option.getD_some]
  by_cases h1 : v < 0
  · simp [go_sem, h1, mFits]
  by_cases h2 : ↑im.length ≤ v
  · simp [go_sem, h1, h2, mFits]
  obtain ⟨n, rfl⟩ : ∃ n : Nat, v = n := ⟨v.toNat, by omega⟩
  have hn : n < im.length := by omega
  have hrl := hi im[n] (List.getElem_mem hn)
  by_cases h3 : d = []
  · simp [go_sem, h2, h3, mFits, hn]
  have hdl : 0 < d.length := List.length_pos_iff.2 h3
  by_cases h4 : s < 0
  · simp [go_sem, h2, h3, h4, mFits, hn]
  by_cases h6 : ↑im[n].length ≤ s
  · simp [go_sem, h2, h3, h4, h6, mFits, hn, show (im[n].length : Int) - d.length < s by omega]
  have hwr := wrap64 (x := (im[n].length : Int) - s) (by omega)
  by_cases h5 : (im[n].length : Int) - d.length < s
  · simp [go_sem, h2, h3, h4, h5, h6, mFits, hn, hwr, show (im[n].length : Int) - s < d.length by omega]
  · simp [go_sem, h2, h3, h4, h5, h6, mFits, hn, hwr, show ¬ (im[n].length : Int) - s < d.length by omega]

/-- What a write is told at any image. -/
def mFit (im : Img) (w : Wr) : Int := if mCheck im = 0 then mFits im w else mCheck im

theorem f29_spec (im : Img) (w : Wr) (hl : im.length < 100000000) (hi : ∀ x ∈ im, x.length < 1000000000) (hd : w.d.length < 1000000000) (Y : List YF) :
    callS ev fs 29 [zImg im, .agg (wrRow w)] [] Y = some (.ret (zI (mFit im w)), []) := by
  refine callS_by f29_eq rfl ?_
  simp only [bodyOf, Go.Proofs.Try.f29, Option.getD_some]
  have h1 := f26_spec im hl []
  have h2 := f96_spec im w hi hd []
  simp only [go_sem] at h1 h2
  by_cases h0 : mCheck im = 0
  · simp [go_sem, h1, h2, h0, mFit]
  · simp [go_sem, h1, h0, mFit]

theorem f30_spec (im : Img) (w : Wr) (hl : im.length < 100000000) (hi : ∀ x ∈ im, x.length < 1000000000) (hd : w.d.length < 1000000000) (Y : List YF) :
    callS ev fs 30 [zImg im, .agg (wrRow w)] [] Y = some (.ret (zI (mFit im w)), []) := by
  refine callS_by f30_eq rfl ?_
  simp only [bodyOf, Go.Proofs.Try.f30, Option.getD_some]
  have h1 := f27_spec im hl []
  have h2 := f97_spec im w hi hd []
  have h3 := f51_spec im hl []
  simp only [go_sem, List.map_map] at h1 h2 h3
  by_cases h0 : mCheck im = 0
  · simp [go_sem, h1, h2, h3, h0, mFit]
  · simp [go_sem, h1, h0, mFit]
end Go.Proofs.Ytlphdiccffnckaa
