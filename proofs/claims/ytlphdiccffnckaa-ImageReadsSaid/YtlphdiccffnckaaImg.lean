/- Layer 7: Apply of the reference; the law ImageApplies. -/
import Derived.Test.YtlphdiccffnckaaImf
namespace Go.Proofs.Ytlphdiccffnckaa
open Go Go.Abs

@[go_sem] theorem secRow_drop (s : Sec) : (secRow s).drop 8 = [] := List.drop_of_length_le (by simp [secRow_len])

theorem f33_spec (im : Img) (hl : im.length < 100000000) (hv : ∀ v ∈ im, v.length < 1000000000) (Y : List YF) :
    ∃ H', callS ev fs 33 [zImg im] [] Y = some (.ret (.os 0 0 im.length im.length), H') ∧ Holds 0 im H' := by
  refine ⟨.own im.length 1 (imgRows 0 1 im) :: volEnts 0 1 im, ?_, holds_made 0 im⟩
  refine callS_by f33_eq rfl ?_
  simp only [bodyOf, Go.Proofs.Try.f33, Option.getD_some]
  obtain ⟨R, hR⟩ := fold_loop (E := ev) (C := callS ev fs) (Y := Y) (w := w33) (a := (loopsOf (bodyOf Go.Proofs.Try.f33))[0]?.getD .skip) (b := 0) 
    im (fun _ s x => .inl (s ++ [id x])) ([] : Img) (ex := fun (r : Empty) => nomatch r)
    (fun i s st => s.length = i ∧ Live [(0, zImg im), (3, .os 0 0 i i), (4, zI i)] (.own i 1 (imgRows 0 1 s) :: volEnts 0 1 s) 0 st)
    (fun s => Live [(3, .os 0 0 im.length im.length)] (.own im.length 1 (imgRows 0 1 s) :: volEnts 0 1 s) 0) (fun r => nomatch r)
    (fun i s st hi h => by
      obtain ⟨rfl, h⟩ := h
      obtain ⟨tm, H, b⟩ := st
      simp only [bodyOf, Go.Proofs.Try.f33, Option.getD_some, loopsOf, rangesOf, List.nil_append, List.append_nil, List.cons_append, List.getElem?_cons_zero, List.getElem?_cons_succ]
      simp only [go_sem] at h
      obtain ⟨h0, h3, h4, rfl, rfl⟩ := h
      have hxl := hv im[s.length] (List.getElem_mem hi)
      have hr : room (s.length + 1) 24 = true := room_ok (by omega) (by omega) (by omega)
      have hr2 : room im[s.length].length 8 = true := room_ok (by omega) (by omega) (by omega)
      have hg := fun a b => get_last (a := a) (b := b) (volEnts_len 0 s 1)
      have hri := imgRows_len 0 s 1
      have htk : (imgRows 0 1 s).take s.length = imgRows 0 1 s := List.take_of_length_le (by omega)
      simp [go_sem, h0, h3, h4, hi, hr, hr2, hg, hri, htk, volEnts_len, volEnts_app, imgRows_app, show s.length < 1000000000 by omega])
    (fun s st h => by
      obtain ⟨_, h⟩ := h
      obtain ⟨tm, H, b⟩ := st
      simp only [bodyOf, Go.Proofs.Try.f33, Option.getD_some, loopsOf, rangesOf, List.nil_append, List.append_nil, List.cons_append, List.getElem?_cons_zero, List.getElem?_cons_succ]
      simp only [go_sem] at h
      obtain ⟨h0, h3, h4, rfl, rfl⟩ := h
      simp [go_sem, h0, h3, h4])
    (fun r => nomatch r)
  simp only [bodyOf, Go.Proofs.Try.f33, Option.getD_some, loopsOf, rangesOf, List.nil_append, List.append_nil, List.cons_append, List.getElem?_cons_zero, List.getElem?_cons_succ] at hR
  rw [foldE_map] at hR
  simp [go_sem, imgRows, volEnts] at hR
  simp [go_sem, hR]

theorem foldE_write (s : Nat) : ∀ (d v : Vol) (k : Nat), s + k + d.length ≤ v.length → foldE (ρ := Empty) (fun k (x : Vol) y => .inl (x.set (s + k) y)) k v d = .inl (mWrite v (s + k) d)
  | [], v, k, _ => by simp [foldE, mWrite]
  | y :: d, v, k, h => by
    simp only [List.length_cons] at h
    simp only [foldE]
    rw [foldE_write s d (v.set (s + k) y) (k + 1) (by simp; omega)]
    congr 1
    have h1 : s + k < v.length := by omega
    simp only [mWrite, List.length_cons]
    rw [← Nat.add_assoc, List.take_set, List.drop_set, if_pos (by omega), List.take_succ_eq_append_getElem h1]
    have h2 : (v.take (s + k)).length = s + k := by simp; omega
    have h3 : (v.take (s + k) ++ [v[s + k]]).set (s + k) y = v.take (s + k) ++ [y] := by rw [List.set_append, if_neg (by omega), h2, Nat.sub_self]; rfl
    rw [h3, show s + k + 1 + d.length = s + k + (d.length + 1) by omega]
    simp

theorem f32_spec (im : Img) (l : List Wr) (hl : im.length < 100000000) (hi0 : ∀ x ∈ im, x.length < 1000000000) (hll : l.length < 100000000) (hd : ∀ w ∈ l, w.d.length < 1000000000) (Y : List YF) :
    callS ev fs 32 [zImg im, zWrs l] [] Y = some (.ret (zApply im l), []) := by
  refine callS_by f32_eq rfl ?_
  simp only [bodyOf, Go.Proofs.Try.f32, Option.getD_some]
  have h27 := f27_spec im hl []
  simp only [go_sem] at h27
  by_cases h0 : ¬ mCheck im = 0
  · simp [go_sem, h27, h0, zApply]
  replace h0 : mCheck im = 0 := by omega
  obtain ⟨q1, q2, q3⟩ := mCheck_zero h0
  obtain ⟨H0, h33, hH0⟩ := f33_spec im hl hi0 Y
  simp only [go_sem] at h33
  obtain ⟨R, hR⟩ := fold_loop (E := ev) (C := callS ev fs) (Y := Y) (w := w32) (a := (loopsOf (bodyOf Go.Proofs.Try.f32))[0]?.getD .skip) (b := 0) 
    l (mApplyF im) im (ex := fun _ => .ret)
    (fun i c st => c.map List.length = im.map List.length ∧ Holds 0 c st.H ∧ LiveT [(0, zImg im), (1, zWrs l), (8, .os 0 0 im.length im.length), (9, zI i)] 0 st)
    (fun c st => c.length = im.length ∧ Holds 0 c st.H ∧ LiveT [(8, .os 0 0 im.length im.length)] 0 st)
    (fun r => fun st => st.tm.get 4 = .sc (.slice none 0 0) ∧ st.tm.get 5 = zI r.1 ∧ st.tm.get 6 = zI r.2 ∧ st.b = 0)
    (fun i c st hi h => by
      obtain ⟨hs, hH, h⟩ := h
      obtain ⟨tm, H, b⟩ := st
      simp only [bodyOf, Go.Proofs.Try.f32, Option.getD_some, loopsOf, rangesOf, List.nil_append, List.append_nil, List.cons_append, List.getElem?_cons_zero, List.getElem?_cons_succ]
      simp only [go_sem] at h
      obtain ⟨h0', h1, h8, h9, rfl⟩ := h
      have hcl : c.length = im.length := by simpa using congrArg List.length hs
      have h30 := f30_spec im l[i] hl hi0 (hd _ (List.getElem_mem hi)) []
      simp only [go_sem, mFit, h0, if_true] at h30
      by_cases hf : ¬ mFits im l[i] = 0
      · simp [go_sem, h0', h1, h8, h9, hi, h30, hf, mApplyF]
      replace hf : mFits im l[i] = 0 := by omega
      have hz := mWr_sizes (c := c) (w := l[i]) (by rw [mFits_sizes hs]; exact hf)
      obtain ⟨n, s, hn, e1, e2, e3, e4⟩ := mFits_zero (c := c) (w := l[i]) (by rw [mFits_sizes hs]; exact hf)
      have hnn : n < im.length := by omega
      have hcn : c[n].length ≤ 4096 := by
        have : c[n].length ∈ im.map List.length := hs ▸ List.mem_map.2 ⟨_, List.getElem_mem hn, rfl⟩
        obtain ⟨y, hy, he⟩ := List.mem_map.1 this
        have := (q3 y hy).2
        omega
      obtain ⟨R2, hR2⟩ := fold_loop (E := ev) (C := callS ev fs) (Y := Y) (w := w32) (a := (loopsOf (bodyOf Go.Proofs.Try.f32))[1]?.getD .skip) (b := 2) 
        l[i].d (fun k (x : Vol) y => .inl (x.set (s + k) y)) c[n] (ex := fun (r : Empty) => nomatch r)
        (fun k x st => x.length = c[n].length ∧ Holds 0 (c.set n x) st.H ∧ LiveT [(0, zImg im), (1, zWrs l), (8, .os 0 0 im.length im.length), (9, zI i), (11, zI k)] 0 st)
        (fun x st => Holds 0 (c.set n x) st.H ∧ LiveT [(0, zImg im), (1, zWrs l), (8, .os 0 0 im.length im.length), (9, zI i)] 0 st) (fun r => nomatch r)
        (fun k x st hk h => by
          obtain ⟨hx, hH, h⟩ := h
          obtain ⟨tm, H, b⟩ := st
          simp only [bodyOf, Go.Proofs.Try.f32, Option.getD_some, loopsOf, rangesOf, List.nil_append, List.append_nil, List.cons_append, List.getElem?_cons_zero, List.getElem?_cons_succ]
          simp only [go_sem] at h
          obtain ⟨g0, g1, g8, g9, g11, rfl⟩ := h
          have htop := hH.top
          have hv := hH.vol n (by simpa using hn)
          have hfin := hH.set (j := n) (v := x.set (s + k) l[i].d[k]) (by simpa using hn) (by simp)
          simp only [List.length_set, List.getElem_set_self, List.set_set, List.map_set, imgRows_set 0 c 1 n x hn hx] at htop hv hfin
          have hw := wrap64 (x := (s : Int) + k) (by omega)
          simp [go_sem, g0, g1, g8, g9, g11, hi, hk, htop, hv, hfin, hw, hn, hnn, hcl, hx, e1, e2, imgRows_len, show k < 1000000000 by omega, show (0 : Int) ≤ (s : Int) + k by omega, show ((s : Int) + k).toNat = s + k by omega, show s + k < c[n].length by omega, show ¬ (s : Int) + k < 0 by omega]
          )
        (fun x st h => by
          obtain ⟨hx, hH, h⟩ := h
          obtain ⟨tm, H, b⟩ := st
          simp only [bodyOf, Go.Proofs.Try.f32, Option.getD_some, loopsOf, rangesOf, List.nil_append, List.append_nil, List.cons_append, List.getElem?_cons_zero, List.getElem?_cons_succ]
          simp only [go_sem] at h
          obtain ⟨g0, g1, g8, g9, g11, rfl⟩ := h
          simp [go_sem, g0, g1, g8, g9, g11, hi, hH])
        (fun r => nomatch r)
      simp only [bodyOf, Go.Proofs.Try.f32, Option.getD_some, loopsOf, rangesOf, List.nil_append, List.append_nil, List.cons_append, List.getElem?_cons_zero, List.getElem?_cons_succ] at hR2
      rw [foldE_write s _ _ 0 (by omega)] at hR2
      simp [go_sem] at hR2
      have hmw : mWr c l[i] = c.set n (mWrite c[n] s l[i].d) := by simp [mWr, e1, e2, hn]
      rw [hmw, hs, List.map_set] at hz
      simp [go_sem, h0', h1, h8, h9, hi, h30, hf, mApplyF, hR2, hH, hz, hmw, hn, show i < 1000000000 by omega])
    (fun c st h => by
      obtain ⟨hs, hH, h⟩ := h
      obtain ⟨tm, H, b⟩ := st
      simp only [bodyOf, Go.Proofs.Try.f32, Option.getD_some, loopsOf, rangesOf, List.nil_append, List.append_nil, List.cons_append, List.getElem?_cons_zero, List.getElem?_cons_succ]
      simp only [go_sem] at h
      obtain ⟨h0', h1, h8, h9, rfl⟩ := h
      have hcl : c.length = im.length := by simpa using congrArg List.length hs
      simp [go_sem, h0', h1, h8, h9, hcl]
      exact hH)
    (fun _ h => by cases h)
  simp only [bodyOf, Go.Proofs.Try.f32, Option.getD_some, loopsOf, rangesOf, List.nil_append, List.append_nil, List.cons_append, List.getElem?_cons_zero, List.getElem?_cons_succ] at hR
  have hm : foldE (mApplyF im) 0 im l = mApply im l := rfl
  rw [hm] at hR
  cases hr : mApply im l with
  | inl c =>
    rw [hr] at hR
    simp [go_sem] at hR
    have hfz : ∀ st, Holds 0 im st.H → st.tm.get 0 = zImg im → st.tm.get 1 = zWrs l → st.tm.get 8 = .os 0 0 im.length im.length → st.tm.get 9 = zI 0 → st.b = 0 →
        AV.freeze 0 (R st).H 5 (.os 0 0 im.length im.length) = some (zImg c) := fun st a1 a2 a3 a4 a5 a6 => by
      obtain ⟨_, b2, b3, _⟩ := hR st a1 a2 a3 a4 a5 a6
      rw [← b2]
      exact freeze_img b3
    simp only [go_sem] at hfz
    simp [go_sem, h27, h0, h33, hH0, hR, hfz, zApply, hr]
  | inr r =>
    rw [hr] at hR
    simp [go_sem] at hR
    simp [go_sem, h27, h0, h33, hH0, hR, zApply, hr]

theorem mApply_sizes {im : Img} : ∀ (l : List Wr) (i : Nat) (c c' : Img), c.map List.length = im.map List.length → foldE (mApplyF im) i c l = .inl c' → c'.map List.length = im.map List.length
  | [], i, c, c', hc, h => by
    simp only [foldE, Sum.inl.injEq] at h
    rw [← h, hc]
  | w :: l, i, c, c', hc, h => by
    simp only [foldE, mApplyF] at h
    by_cases hf : mFits im w = 0
    · simp only [hf, if_true] at h
      exact mApply_sizes l (i + 1) (mWr c w) c' (by rw [mWr_sizes (by rw [mFits_sizes hc]; exact hf), hc]) h
    · simp [hf] at h
theorem sizes_len {c im : Img} (h : c.map List.length = im.map List.length) : c.length = im.length := by simpa using congrArg List.length h
theorem sizes_mem {c im : Img} (h : c.map List.length = im.map List.length) {n : Nat} (hm : ∀ v ∈ im, v.length ≤ n) : ∀ v ∈ c, v.length ≤ n := fun v hv => by
  have : v.length ∈ im.map List.length := h ▸ List.mem_map.2 ⟨v, hv, rfl⟩
  obtain ⟨y, hy, he⟩ := List.mem_map.1 this
  have := hm y hy
  omega

theorem f4_spec (im : Img) (l : List Wr) (Y : List YF) : callS ev fs 4 [zImg im, zWrs l] [] Y = some (.ret (zB true), []) := by
  refine callS_by f4_eq rfl ?_
  simp only [bodyOf, Go.Proofs.Try.f4, Option.getD_some]
  have hw := f22_call
  have h19 := f19_spec im []
  have h28 := f28_spec l []
  simp only [go_sem] at hw h19 h28
  cases hf : mFew im
  · simp [go_sem, h19, hf, hw]
  cases hg : mFewW l
  · simp [go_sem, h19, h28, hf, hg, hw]
  obtain ⟨i1, i2⟩ := few_len hf
  obtain ⟨j1, j2⟩ := fewW hg
  have i3 : ∀ x ∈ im, x.length < 1000000000 := fun x hx => by have := i2 x hx; omega
  obtain ⟨R, hR⟩ := fold_loop (E := ev) (C := callS ev fs) (Y := Y) (w := {}) (a := (loopsOf (bodyOf Go.Proofs.Try.f4))[0]?.getD .skip) (b := 0) 
    l (fun _ (_ : Unit) (_ : Wr) => .inl ()) () (ex := fun (r : Empty) => nomatch r)
    (fun i _ => LiveT [(0, zImg im), (1, zWrs l), (22, zWrs l), (23, zI l.length), (24, zI i)] 0)
    (fun _ => LiveT [(0, zImg im), (1, zWrs l)] 0) (fun r => nomatch r)
    (fun i c st hi h => by
      have hH := True.intro
      obtain ⟨tm, H, b⟩ := st
      simp only [bodyOf, Go.Proofs.Try.f4, Option.getD_some, loopsOf, rangesOf, List.nil_append, List.append_nil, List.cons_append, List.getElem?_cons_zero, List.getElem?_cons_succ]
      simp only [go_sem] at h
      obtain ⟨h0, h1, h22, h23, h24, rfl⟩ := h
      have hdi := j2 _ (List.getElem_mem hi)
      have h29 := f29_spec im l[i] (by omega) i3 (by omega) []
      have h30 := f30_spec im l[i] (by omega) i3 (by omega) []
      simp only [go_sem] at h29 h30
      simp [go_sem, h0, h1, h22, h23, h24, hi, h29, h30, show i < 1000000000 by omega])
    (fun c st h => by
      have hH := True.intro
      obtain ⟨tm, H, b⟩ := st
      simp only [bodyOf, Go.Proofs.Try.f4, Option.getD_some, loopsOf, rangesOf, List.nil_append, List.append_nil, List.cons_append, List.getElem?_cons_zero, List.getElem?_cons_succ]
      simp only [go_sem] at h
      obtain ⟨h0, h1, h22, h23, h24, rfl⟩ := h
      simp [go_sem, h0, h1, h22, h23, h24])
    (fun r => nomatch r)
  simp only [bodyOf, Go.Proofs.Try.f4, Option.getD_some, loopsOf, rangesOf, List.nil_append, List.append_nil, List.cons_append, List.getElem?_cons_zero, List.getElem?_cons_succ] at hR
  rw [show (fun (_ : Nat) (_ : Unit) (_ : Wr) => (Sum.inl () : Unit ⊕ Empty)) = fun _ s x => Sum.inl ((fun (s : Unit) (_ : Wr) => s) s x) from rfl, foldE_fold] at hR
  simp [go_sem] at hR
  have h31 := f31_spec im l (by omega) (by omega) (fun w hw => by have := j2 w hw; omega) []
  have h32 := f32_spec im l (by omega) i3 (by omega) (fun w hw => by have := j2 w hw; omega) []
  by_cases h0 : ¬ mCheck im = 0
  · have h25 := f25_nil
    simp only [go_sem, zApply, h0, if_false] at h31 h32 h25
    simp [go_sem, h19, h28, hf, hg, hw, hR, h31, h32, h25]
  replace h0 : mCheck im = 0 := by omega
  simp only [zApply, h0, if_true] at h31 h32
  cases hr : mApply im l with
  | inl c =>
    have hs := mApply_sizes l 0 im c rfl hr
    have h25 := f25_spec c c (by have := sizes_len hs; omega) (fun v hv => by have := sizes_mem hs i2 v hv; omega) []
    simp only [go_sem, hr, decide_true] at h31 h32 h25
    simp [go_sem, h19, h28, hf, hg, hw, hR, h31, h32, h25]
  | inr r =>
    have h25 := f25_nil
    simp only [go_sem, hr] at h31 h32 h25
    simp [go_sem, h19, h28, hf, hg, hw, hR, h31, h32, h25]
end Go.Proofs.Ytlphdiccffnckaa
