/- Layer 7: Apply. -/
import Derived.Test.YtlphdiccffnckaaIme
namespace Go.Proofs.Ytlphdiccffnckaa
open Go Go.Abs

theorem getE {H : List Ent} {k : Nat} {e : Ent} (h : H[k]? = some e) (hk : k < H.length) : H[k] = e := by
  rw [List.getElem?_eq_getElem hk] at h
  exact Option.some.inj h
@[go_sem] theorem imgRows_getE (u : Nat) (c : Img) (k j : Nat) (h : j < (imgRows u k c).length) : (imgRows u k c)[j] = [.os (2 * j + k) 0 (c[j]'(by rwa [imgRows_len] at h)).length u] := by
  have h' : j < c.length := by rwa [imgRows_len] at h
  have := imgRows_get u c k j h'
  rw [List.getElem?_eq_getElem h] at this
  exact Option.some.inj this
theorem f96_gen (c : Img) (w : Wr) (u : Nat) (H : List Ent) (hH : Holds u c H) (hi : ∀ x ∈ c, x.length < 1000000000) (hd : w.d.length < 1000000000) (Y : List YF) :
    callS ev fs 96 [.os 0 0 c.length c.length, .agg (wrRow w)] H Y = some (.ret (zI (mFits c w)), H) := by
  obtain ⟨v, s, d⟩ := w
  simp only at hd
  refine callS_by f96_eq rfl ?_
  simp only [bodyOf, Go.Proofs.Try.f96, Option.getD_some]
  have hb0 := fun B => (hH.app B).top
  have hb := fun B hk => getE (hb0 B) hk
  by_cases h1 : v < 0
  · simp [go_sem, h1, mFits, hb]
  by_cases h2 : ↑c.length ≤ v
  · simp [go_sem, h1, h2, mFits, hb, hb0]
  obtain ⟨n, rfl⟩ : ∃ n : Nat, v = n := ⟨v.toNat, by omega⟩
  have hn : n < c.length := by omega
  have hrl := hi c[n] (List.getElem_mem hn)
  by_cases h3 : d = []
  · simp [go_sem, h2, h3, mFits, hn, hb, hb0]
  have hv := fun B => (hH.app B).vol n hn
  have hrw := imgRows_get u c 1 n hn
  by_cases h4 : s < 0
  · simp [go_sem, h2, h3, h4, mFits, hn, hb, hb0]
  by_cases h5 : (c[n].length : Int) - d.length < s
  · simp [go_sem, h2, h3, h4, h5, mFits, hn, hb, hb0, hv, hrw, imgRows_len, wrap64 (x := (c[n].length : Int) - d.length) (by omega)]
  · simp [go_sem, h2, h3, h4, h5, mFits, hn, hb, hb0, hv, hrw, imgRows_len, wrap64 (x := (c[n].length : Int) - d.length) (by omega)]

theorem mFits_sizes {c im : Img} (h : c.map List.length = im.map List.length) (w : Wr) : mFits c w = mFits im w := by
  have hl : c.length = im.length := by simpa using congrArg List.length h
  have hg : ∀ k : Nat, ((c[k]?).getD []).length = ((im[k]?).getD []).length := fun k => by
    have := congrArg (·[k]?) h
    simp only [List.getElem?_map] at this
    cases h1 : c[k]? <;> cases h2 : im[k]? <;> simp [h1, h2] at this ⊢
    exact this
  unfold mFits
  rw [hl, hg]

def mWrite (v : Vol) (s : Nat) (d : Vol) : Vol := v.take s ++ d ++ v.drop (s + d.length)
theorem mWrite_len {v : Vol} {s : Nat} {d : Vol} (h : s + d.length ≤ v.length) : (mWrite v s d).length = v.length := by simp [mWrite]; omega
def mWr (c : Img) (w : Wr) : Img := c.set w.v.toNat (mWrite ((c[w.v.toNat]?).getD []) w.s.toNat w.d)
theorem mFits_zero {c : Img} {w : Wr} (h : mFits c w = 0) : ∃ n s : Nat, ∃ hn : n < c.length, w.v = n ∧ w.s = s ∧ w.d ≠ [] ∧ s + w.d.length ≤ c[n].length := by
  unfold mFits at h
  split at h
  · simp at h
  split at h
  · simp at h
  split at h
  · simp at h
  · rename_i h1 h2 h3
    have hn : w.v.toNat < c.length := by omega
    rw [List.getElem?_eq_getElem hn, Option.getD_some] at h3
    exact ⟨w.v.toNat, w.s.toNat, hn, by omega, by omega, h2, by omega⟩
theorem mWr_sizes {c : Img} {w : Wr} (h : mFits c w = 0) : (mWr c w).map List.length = c.map List.length := by
  obtain ⟨n, s, hn, h1, h2, h3, h4⟩ := mFits_zero h
  unfold mWr
  rw [h1, h2, Int.toNat_natCast, Int.toNat_natCast, List.getElem?_eq_getElem hn, Option.getD_some, List.map_set, mWrite_len h4]
  apply List.ext_getElem
  · simp
  · intro i h5 h6
    simp only [List.getElem_set, List.getElem_map]
    split
    · subst_vars; rfl
    · rfl

/-- The writes, one after the other. -/
def mApplyF (im : Img) (i : Nat) (c : Img) (w : Wr) : Img ⊕ (Nat × Int) := if mFits im w = 0 then .inl (mWr c w) else .inr (i, mFits im w)
def mApply (im : Img) (l : List Wr) : Img ⊕ (Nat × Int) := foldE (mApplyF im) 0 im l
def zApply (im : Img) (l : List Wr) : AV :=
  if mCheck im = 0 then match mApply im l with
    | .inl c => .tup [zImg c, zI 0, zI 0]
    | .inr (i, e) => .tup [.sc (.slice none 0 0), zI i, zI e]
  else .tup [.sc (.slice none 0 0), zI 0, zI (mCheck im)]

theorem mCheck_zero {im : Img} (h : mCheck im = 0) : 1 ≤ im.length ∧ im.length ≤ 8 ∧ ∀ v ∈ im, v ≠ [] ∧ v.length ≤ 4096 := by
  obtain ⟨a, b, c⟩ := mSizes_zero h
  refine ⟨by simpa using a, by simpa using b, fun v hv => ?_⟩
  have := c v.length (List.mem_map.2 ⟨v, hv, rfl⟩)
  refine ⟨?_, by omega⟩
  rintro rfl
  simp at this

theorem write_row (v : Vol) (s n : Nat) (d : Vol) (hd : d.length ≤ n) : (v.map secRow).take s ++ overlay ((d.map secRow).take n) ((v.map secRow).drop s) = (mWrite v s d).map secRow := by
  rw [List.take_of_length_le (l := d.map secRow) (by simpa using hd)]
  simp [overlay, mWrite, List.map_take, List.map_drop]

theorem f31_spec (im : Img) (l : List Wr) (hl : im.length < 100000000) (hll : l.length < 100000000) (hd : ∀ w ∈ l, w.d.length < 1000000000) (Y : List YF) :
    callS ev fs 31 [zImg im, zWrs l] [] Y = some (.ret (zApply im l), []) := by
  refine callS_by f31_eq rfl ?_
  simp only [bodyOf, Go.Proofs.Try.f31, Option.getD_some]
  have h26 := f26_spec im hl []
  simp only [go_sem] at h26
  by_cases h0 : ¬ mCheck im = 0
  · simp [go_sem, h26, h0, zApply]
  replace h0 : mCheck im = 0 := by omega
  obtain ⟨q1, q2, q3⟩ := mCheck_zero h0
  obtain ⟨H0, h98, hH0⟩ := f98_spec im hl (fun v hv => ⟨(q3 v hv).1, by have := (q3 v hv).2; omega⟩) Y
  simp only [go_sem] at h98
  obtain ⟨R, hR⟩ := fold_loop (E := ev) (C := callS ev fs) (Y := Y) (w := w31) (a := (loopsOf (bodyOf Go.Proofs.Try.f31))[0]?.getD .skip) (b := 0) 
    l (mApplyF im) im (ex := fun _ => .ret)
    (fun i c st => c.map List.length = im.map List.length ∧ Holds 1 c st.H ∧ LiveT [(8, .os 0 0 im.length im.length), (19, zWrs l), (20, zI l.length), (21, zI i)] 0 st)
    (fun c st => c.length = im.length ∧ Holds 1 c st.H ∧ LiveT [(8, .os 0 0 im.length im.length)] 0 st)
    (fun r => fun st => st.tm.get 4 = .sc (.slice none 0 0) ∧ st.tm.get 5 = zI r.1 ∧ st.tm.get 6 = zI r.2 ∧ st.b = 0)
    (fun i c st hi h => by
      obtain ⟨hs, hH, h⟩ := h
      obtain ⟨tm, H, b⟩ := st
      simp only [bodyOf, Go.Proofs.Try.f31, Option.getD_some, loopsOf, rangesOf, List.nil_append, List.append_nil, List.cons_append, List.getElem?_cons_zero, List.getElem?_cons_succ]
      simp only [go_sem] at h
      obtain ⟨h8, h19, h20, h21, rfl⟩ := h
      have hcl : c.length = im.length := by simpa using congrArg List.length hs
      have hb := fun B => (hH.app B).top
      have hcv : ∀ x ∈ c, x.length < 1000000000 := fun x hx => by
        have : x.length ∈ im.map List.length := hs ▸ List.mem_map.2 ⟨x, hx, rfl⟩
        obtain ⟨y, hy, he⟩ := List.mem_map.1 this
        have := (q3 y hy).2
        omega
      have h96 := fun B => f96_gen c l[i] 1 (H ++ B) (hH.app B) hcv (hd _ (List.getElem_mem hi)) Y
      simp only [go_sem, mFits_sizes hs, hcl] at h96
      by_cases hf : ¬ mFits im l[i] = 0
      · simp [go_sem, h8, h19, h20, h21, hi, h96, hf, mApplyF]
      replace hf : mFits im l[i] = 0 := by omega
      have hz := mWr_sizes (c := c) (w := l[i]) (by rw [mFits_sizes hs]; exact hf)
      obtain ⟨n, s, hn, e1, e2, e3, e4⟩ := mFits_zero (c := c) (w := l[i]) (by rw [mFits_sizes hs]; exact hf)
      have hdl : 0 < l[i].d.length := List.length_pos_iff.2 e3
      have hnn : n < im.length := by omega
      have hb0 := fun B => (hH.app B).top
      have hb1 := fun B hk => getE (hb0 B) hk
      have hv := fun B => (hH.app B).vol n hn
      have hfin := fun B => (hH.app B).set hn (v := mWrite c[n] s l[i].d) (mWrite_len e4)
      simp only [mApplyF, hf, if_true]
      rw [show mWr c l[i] = c.set n (mWrite c[n] s l[i].d) by simp [mWr, e1, e2, hn]] at hz ⊢
      rw [hs, List.map_set] at hz
      cases s with
      | zero =>
        have hrow := write_row c[n] 0 c[n].length l[i].d (by omega)
        simp only [List.take_zero, List.nil_append, List.drop_zero] at hrow
        have e2 : l[i].s = 0 := by simpa using e2
        simp only [e1, e2] at h96
        simp [go_sem, h8, h19, h20, h21, hi, h96, hf, hb0, hb1, hv, hn, hnn, hcl, e1, e2, imgRows_len, hrow, hfin, hz, show i < 1000000000 by omega]
      | succ s =>
        have hrow := write_row c[n] (s + 1) (c[n].length - (s + 1)) l[i].d (by omega)
        have e2 : l[i].s = (s : Int) + 1 := by simpa using e2
        simp only [e1, e2] at h96
        simp [go_sem, h8, h19, h20, h21, hi, h96, hf, hb0, hb1, hv, hn, hnn, hcl, e1, e2, imgRows_len, hrow, hfin, hz, show i < 1000000000 by omega, show (0 : Int) ≤ (s : Int) + 1 by omega, show s + 1 ≤ c[n].length by omega, show s + 1 < c[n].length by omega, show s + 1 + (c[n].length - (s + 1)) ≤ c[n].length by omega])
    (fun c st h => by
      obtain ⟨hs, hH, h⟩ := h
      obtain ⟨tm, H, b⟩ := st
      simp only [bodyOf, Go.Proofs.Try.f31, Option.getD_some, loopsOf, rangesOf, List.nil_append, List.append_nil, List.cons_append, List.getElem?_cons_zero, List.getElem?_cons_succ]
      simp only [go_sem] at h
      obtain ⟨h8, h19, h20, h21, rfl⟩ := h
      have hcl : c.length = im.length := by simpa using congrArg List.length hs
      simp [go_sem, h8, h20, h21, hcl]
      exact hH)
    (fun _ h => by cases h)
  simp only [bodyOf, Go.Proofs.Try.f31, Option.getD_some, loopsOf, rangesOf, List.nil_append, List.append_nil, List.cons_append, List.getElem?_cons_zero, List.getElem?_cons_succ] at hR
  have hm : foldE (mApplyF im) 0 im l = mApply im l := rfl
  rw [hm] at hR
  cases hr : mApply im l with
  | inl c =>
    rw [hr] at hR
    simp [go_sem] at hR
    have hfz : ∀ st, Holds 1 im st.H → st.tm.get 8 = .os 0 0 im.length im.length → st.tm.get 19 = zWrs l → st.tm.get 20 = zI l.length → st.tm.get 21 = zI 0 → st.b = 0 →
        AV.freeze 0 (R st).H 5 (.os 0 0 im.length im.length) = some (zImg c) := fun st a1 a2 a3 a4 a5 a6 => by
      obtain ⟨_, b2, b3, _⟩ := hR st a1 a2 a3 a4 a5 a6
      rw [← b2]
      exact freeze_img b3
    simp only [go_sem] at hfz
    simp [go_sem, h26, h0, h98, hH0, hR, hfz, zApply, hr]
  | inr r =>
    rw [hr] at hR
    simp [go_sem] at hR
    simp [go_sem, h26, h0, h98, hH0, hR, zApply, hr]
end Go.Proofs.Ytlphdiccffnckaa
