/- Layer 7: the law ImageLast. -/
import Derived.Test.YtlphdiccffnckaaImg
namespace Go.Proofs.Ytlphdiccffnckaa
open Go Go.Abs

def secAt (c : Img) (v s : Nat) : Option Sec := (c[v]?).bind (·[s]?)
def covers (w : Wr) (v s : Nat) : Bool := decide (w.v = v) && decide (w.s ≤ s) && decide ((s : Int) - w.s < w.d.length)
def wantF (v s : Nat) (x : Sec) (w : Wr) : Sec := if covers w v s = true then (w.d[((s : Int) - w.s).toNat]?).getD x else x

theorem mWrite_get (v : Vol) (p : Nat) (d : Vol) (h : p + d.length ≤ v.length) (s : Nat) : (mWrite v p d)[s]? = if p ≤ s ∧ s < p + d.length then d[s - p]? else v[s]? := by
  unfold mWrite
  have h1 : (v.take p).length = p := by simp; omega
  have h2 : (v.take p ++ d).length = p + d.length := by simp; omega
  by_cases ha : s < p
  · rw [if_neg (by omega), List.getElem?_append_left (by omega), List.getElem?_append_left (by omega), List.getElem?_take, if_pos ha]
  by_cases hb : s < p + d.length
  · rw [if_pos (by omega), List.getElem?_append_left (by omega), List.getElem?_append_right (by omega), h1]
  · rw [if_neg (by omega), List.getElem?_append_right (by omega), h2, List.getElem?_drop]
    congr 1
    omega

theorem wantF_no {w : Wr} {v s : Nat} (h : covers w v s = false) (x : Sec) : wantF v s x w = x := by simp [wantF, h]
theorem mWr_at {c : Img} {w : Wr} (h : mFits c w = 0) (v s : Nat) : secAt (mWr c w) v s = (secAt c v s).map fun x => wantF v s x w := by
  obtain ⟨n, p, hn, e1, e2, e3, e4⟩ := mFits_zero h
  have hm : mWr c w = c.set n (mWrite c[n] p w.d) := by simp [mWr, e1, e2, hn]
  rw [hm]
  by_cases hc : n = v ∧ p ≤ s ∧ s < p + w.d.length
  · obtain ⟨rfl, hc⟩ := hc
    have hlt : s < c[n].length := by omega
    have hd : s - p < w.d.length := by omega
    have hcv : covers w n s = true := by simp [covers, e1, e2]; omega
    simp only [secAt, List.getElem?_set_self hn, List.getElem?_eq_getElem hn, Option.bind_some, mWrite_get _ _ _ e4, if_pos hc, List.getElem?_eq_getElem hlt, Option.map_some, wantF, hcv, if_true, e2, show ((s : Int) - p).toNat = s - p by omega, List.getElem?_eq_getElem hd, Option.getD_some]
  · have hcv : covers w v s = false := by
      simp only [covers, e1, e2]
      by_cases h1 : n = v
      · by_cases h2 : p ≤ s
        · simp [h1, h2]; omega
        · simp [h2]
      · simp [Int.ofNat_inj, h1]
    simp only [wantF_no hcv, Option.map_id']
    unfold secAt
    by_cases hv : n = v
    · subst hv
      rw [List.getElem?_set_self hn, List.getElem?_eq_getElem hn, Option.bind_some, Option.bind_some, mWrite_get _ _ _ e4, if_neg (by omega)]
    · rw [List.getElem?_set_ne hv]

theorem mApply_err {im : Img} : ∀ (l : List Wr) (i : Nat) (c : Img) (k : Nat) (e : Int), foldE (mApplyF im) i c l = .inr (k, e) → e ≠ 0 ∧ i ≤ k ∧ k < i + l.length
  | [], i, c, k, e, h => by simp [foldE] at h
  | w :: l, i, c, k, e, h => by
    simp only [foldE, mApplyF] at h
    by_cases hf : mFits im w = 0
    · simp only [hf, if_true] at h
      have := mApply_err l (i + 1) (mWr c w) k e h
      simp only [List.length_cons]
      omega
    · simp only [hf, if_false, Sum.inr.injEq, Prod.mk.injEq] at h
      obtain ⟨rfl, rfl⟩ := h
      simp [hf]

theorem mApply_at {im : Img} : ∀ (l : List Wr) (i : Nat) (c c' : Img), c.map List.length = im.map List.length → foldE (mApplyF im) i c l = .inl c' →
    (∀ w ∈ l, mFits im w = 0) ∧ ∀ v s, secAt c' v s = (secAt c v s).map fun x => l.foldl (wantF v s) x
  | [], i, c, c', hc, h => by
    simp only [foldE, Sum.inl.injEq] at h
    subst h
    exact ⟨fun w hw => by simp at hw, fun v s => by cases secAt c v s <;> rfl⟩
  | w :: l, i, c, c', hc, h => by
    simp only [foldE, mApplyF] at h
    by_cases hf : mFits im w = 0
    · simp only [hf, if_true] at h
      have hf' : mFits c w = 0 := by rw [mFits_sizes hc]; exact hf
      obtain ⟨h1, h2⟩ := mApply_at l (i + 1) (mWr c w) c' (by rw [mWr_sizes hf', hc]) h
      refine ⟨fun u hu => ?_, fun v s => ?_⟩
      · rcases List.mem_cons.1 hu with rfl | hu
        · exact hf
        · exact h1 u hu
      · rw [h2, mWr_at hf']
        cases secAt c v s <;> rfl
    · simp [hf] at h

theorem f5_spec (im : Img) (l : List Wr) (Y : List YF) : callS ev fs 5 [zImg im, zWrs l] [] Y = some (.ret (zB true), []) := by
  refine callS_by f5_eq rfl ?_
  simp only [bodyOf, Go.Proofs.Try.f5, Option.getD_some]
  have hw := f22_call
  have h19 := f19_spec im []
  have h28 := f28_spec l []
  simp only [go_sem] at hw h19 h28
  cases hf : mFew im
  · simp [go_sem, h19, hf, hw]
  cases hg : mFewW l
  · simp [go_sem, h19, h28, hf, hg, hw]
  obtain ⟨i1, i2⟩ := few_len hf
  obtain ⟨j1, j2⟩ := fewW hg
  have i3 : ∀ x ∈ im, x.length < 1000000000 := fun x hx => by have := i2 x hx; omega
  obtain ⟨H', h33, hH'⟩ := f33_spec im (by omega) i3 []
  have hbr : bareRet H' (.os 0 0 im.length im.length) = some (zImg im) := by
    unfold bareRet
    rw [if_neg (by simp [AV.pure]), freeze_img hH']
    rfl
  have h31 := f31_spec im l (by omega) (by omega) (fun w hw => by have := j2 w hw; omega) []
  have h25 := f25_spec im im (by omega) i3 []
  simp only [go_sem, decide_true] at h33 hbr h25
  by_cases h0 : ¬ mCheck im = 0
  · simp only [go_sem, zApply, h0, if_false] at h31
    simp [go_sem, h19, h28, hf, hg, hw, h33, hbr, h31, h0]
  replace h0 : mCheck im = 0 := by omega
  simp only [zApply, h0, if_true] at h31
  cases hr : mApply im l with
  | inr r =>
    obtain ⟨k, e⟩ := r
    simp only [go_sem, hr] at h31
    have he := (mApply_err l 0 im k e hr).1
    simp [go_sem, h19, h28, hf, hg, hw, h33, hbr, h31, he]
  | inl c =>
    have hs := mApply_sizes l 0 im c rfl hr
    obtain ⟨k1, k2⟩ := mApply_at l 0 im c rfl hr
    have hcl := sizes_len hs
    have hcv : ∀ v (h1 : v < im.length) (h2 : v < c.length), c[v].length = im[v].length := fun v h1 h2 => by
      have := congrArg (·[v]?) hs
      simpa [h1, h2] using this
    have hcs : ∀ v s (h1 : v < im.length) (h2 : v < c.length) (h3 : s < im[v].length) (h4 : s < c[v].length), c[v][s] = l.foldl (wantF v s) im[v][s] := fun v s h1 h2 h3 h4 => by
      have := k2 v s
      simpa [secAt, h1, h2, h3, h4] using this
    simp only [go_sem, hr] at h31
    obtain ⟨R, hR⟩ := fold_loop (E := ev) (C := callS ev fs) (Y := Y) (w := {}) (a := (loopsOf (bodyOf Go.Proofs.Try.f5))[0]?.getD .skip) (b := 0) 
      im (fun _ (_ : Unit) (_ : Vol) => .inl ()) () (ex := fun (r : Empty) => nomatch r)
      (fun v _ => LiveT [(1, zWrs l), (5, zImg im), (6, zImg c), (52, zI im.length), (53, zI v)] 0)
      (fun _ => LiveT [] 0) (fun r => nomatch r)
      (fun v u st hv h => by
        obtain ⟨tm, H, b⟩ := st
        simp only [bodyOf, Go.Proofs.Try.f5, Option.getD_some, loopsOf, rangesOf, List.nil_append, List.append_nil, List.cons_append, List.getElem?_cons_zero, List.getElem?_cons_succ]
        simp only [go_sem] at h
        obtain ⟨h1, h5, h6, h52, h53, rfl⟩ := h
        have hvc : v < c.length := by omega
        have hiv := i2 _ (List.getElem_mem hv)
        have hlen := hcv v hv hvc
        obtain ⟨R2, hR2⟩ := fold_loop (E := ev) (C := callS ev fs) (Y := Y) (w := {}) (a := (loopsOf (bodyOf Go.Proofs.Try.f5))[1]?.getD .skip) (b := 2) 
          im[v] (fun _ (_ : Unit) (_ : Sec) => .inl ()) () (ex := fun (r : Empty) => nomatch r)
          (fun s _ => LiveT [(1, zWrs l), (5, zImg im), (6, zImg c), (9, zI v), (52, zI im.length), (53, zI v), (71, zI im[v].length), (72, zI s)] 0)
          (fun _ => LiveT [(1, zWrs l), (5, zImg im), (6, zImg c), (52, zI im.length), (53, zI v)] 0) (fun r => nomatch r)
          (fun s u st hsl h => by
            obtain ⟨tm, H, b⟩ := st
            simp only [bodyOf, Go.Proofs.Try.f5, Option.getD_some, loopsOf, rangesOf, List.nil_append, List.append_nil, List.cons_append, List.getElem?_cons_zero, List.getElem?_cons_succ]
            simp only [go_sem] at h
            obtain ⟨g1, g5, g6, g9, g52, g53, g71, g72, rfl⟩ := h
            have hsc : s < c[v].length := by omega
            have hgoal := hcs v s hv hvc hsl hsc
            obtain ⟨R3, hR3⟩ := fold_loop (E := ev) (C := callS ev fs) (Y := Y) (w := {}) (a := (loopsOf (bodyOf Go.Proofs.Try.f5))[2]?.getD .skip) (b := 4) 
              l (fun _ x w => .inl (wantF v s x w)) im[v][s] (ex := fun (r : Empty) => nomatch r)
              (fun k x st => st.H[H.length]? = some (.box (secRow x)) ∧ LiveT [(1, zWrs l), (5, zImg im), (6, zImg c), (9, zI v), (10, zI s), (11, .bp H.length 0), (52, zI im.length), (53, zI v), (71, zI im[v].length), (72, zI s), (82, zWrs l), (83, zI l.length), (84, zI k)] 0 st)
              (fun x st => st.H[H.length]? = some (.box (secRow x)) ∧ LiveT [(1, zWrs l), (5, zImg im), (6, zImg c), (9, zI v), (10, zI s), (11, .bp H.length 0), (52, zI im.length), (53, zI v), (71, zI im[v].length), (72, zI s)] 0 st) (fun r => nomatch r)
              (fun k x st hk h => by
                obtain ⟨hH, h⟩ := h
                generalize H.length = K at hH h ⊢
                obtain ⟨tm, H, b⟩ := st
                simp only [bodyOf, Go.Proofs.Try.f5, Option.getD_some, loopsOf, rangesOf, List.nil_append, List.append_nil, List.cons_append, List.getElem?_cons_zero, List.getElem?_cons_succ]
                simp only [go_sem] at h
                obtain ⟨q1, q5, q6, q9, q10, q11, q52, q53, q71, q72, q82, q83, q84, rfl⟩ := h
                simp only at hH
                obtain ⟨n, p, hn, e1, e2, e3, e4⟩ := mFits_zero (k1 l[k] (List.getElem_mem hk))
                have hb0 := fun B => get_app (B := B) hH
                have hb1 := fun B hk => getE (hb0 B) hk
                have hKl := (List.getElem?_eq_some_iff.1 hH).1
                have hdk := j2 _ (List.getElem_mem hk)
                have hlast : ∀ e, (H ++ [e])[H.length]? = some e := fun e => by simp
                by_cases hv' : ¬ n = v
                · have hno : wantF v s x l[k] = x := wantF_no (by simp [covers, e1, Int.ofNat_inj, hv']) x
                  simp [go_sem, q1, q5, q6, q9, q10, q11, q52, q53, q71, q72, q82, q83, q84, hk, e1, e2, hb0, hb1, Int.ofNat_inj, hv', hno, show k < 1000000000 by omega]
                replace hv' : n = v := Decidable.not_not.1 hv'
                subst hv'
                by_cases hp : ¬ p ≤ s
                · have hno : wantF n s x l[k] = x := wantF_no (by simp [covers, e2, hp]) x
                  simp [go_sem, q1, q5, q6, q9, q10, q11, q52, q53, q71, q72, q82, q83, q84, hk, e1, e2, hb0, hb1, hp, hno, show k < 1000000000 by omega]
                replace hp : p ≤ s := Decidable.not_not.1 hp
                have hsub : (s : Int) - p = ((s - p : Nat) : Int) := by omega
                have hwr : IntKind.wrap .i64 ((s - p : Nat) : Int) = ((s - p : Nat) : Int) := wrap64 (by omega)
                by_cases hd : s - p < l[k].d.length
                · have hno : wantF n s x l[k] = l[k].d[s - p] := by simp [wantF, covers, e1, e2, hp, hsub, hd]
                  simp [go_sem, q1, q5, q6, q9, q10, q11, q52, q53, q71, q72, q82, q83, q84, hk, e1, e2, hb0, hb1, hp, hsub, hwr, hd, hno, hKl, show K < H.length + 1 by omega, show k < 1000000000 by omega]
                · have hno : wantF n s x l[k] = x := wantF_no (by simp [covers, e1, e2, hp, hsub]; omega) x
                  simp [go_sem, q1, q5, q6, q9, q10, q11, q52, q53, q71, q72, q82, q83, q84, hk, e1, e2, hb0, hb1, hp, hsub, hwr, hd, hno, show k < 1000000000 by omega])
              (fun x st h => by
                obtain ⟨hH, h⟩ := h
                obtain ⟨tm, H, b⟩ := st
                simp only [bodyOf, Go.Proofs.Try.f5, Option.getD_some, loopsOf, rangesOf, List.nil_append, List.append_nil, List.cons_append, List.getElem?_cons_zero, List.getElem?_cons_succ]
                simp only [go_sem] at h
                obtain ⟨q1, q5, q6, q9, q10, q11, q52, q53, q71, q72, q82, q83, q84, rfl⟩ := h
                simp [go_sem, q1, q5, q6, q9, q10, q11, q52, q53, q71, q72, q82, q83, q84, hH])
              (fun r => nomatch r)
            simp only [bodyOf, Go.Proofs.Try.f5, Option.getD_some, loopsOf, rangesOf, List.nil_append, List.append_nil, List.cons_append, List.getElem?_cons_zero, List.getElem?_cons_succ] at hR3
            rw [foldE_fold] at hR3
            simp [go_sem] at hR3
            simp [go_sem, g1, g5, g6, g9, g52, g53, g71, g72, hv, hvc, hsl, hsc, hR3, hgoal, show s < 1000000000 by omega])
          (fun u st h => by
            obtain ⟨tm, H, b⟩ := st
            simp only [bodyOf, Go.Proofs.Try.f5, Option.getD_some, loopsOf, rangesOf, List.nil_append, List.append_nil, List.cons_append, List.getElem?_cons_zero, List.getElem?_cons_succ]
            simp only [go_sem] at h
            obtain ⟨g1, g5, g6, g9, g52, g53, g71, g72, rfl⟩ := h
            simp [go_sem, g1, g5, g6, g9, g52, g53, g71, g72])
          (fun r => nomatch r)
        simp only [bodyOf, Go.Proofs.Try.f5, Option.getD_some, loopsOf, rangesOf, List.nil_append, List.append_nil, List.cons_append, List.getElem?_cons_zero, List.getElem?_cons_succ] at hR2
        rw [show (fun (_ : Nat) (_ : Unit) (_ : Sec) => (Sum.inl () : Unit ⊕ Empty)) = fun _ s x => Sum.inl ((fun (s : Unit) (_ : Sec) => s) s x) from rfl, foldE_fold] at hR2
        simp [go_sem] at hR2
        simp [go_sem, h1, h5, h6, h52, h53, hv, hvc, hlen, hR2, show v < 1000000000 by omega])
      (fun u st h => by
        obtain ⟨tm, H, b⟩ := st
        simp only [bodyOf, Go.Proofs.Try.f5, Option.getD_some, loopsOf, rangesOf, List.nil_append, List.append_nil, List.cons_append, List.getElem?_cons_zero, List.getElem?_cons_succ]
        simp only [go_sem] at h
        obtain ⟨h1, h5, h6, h52, h53, rfl⟩ := h
        simp [go_sem, h1, h5, h6, h52, h53])
      (fun r => nomatch r)
    simp only [bodyOf, Go.Proofs.Try.f5, Option.getD_some, loopsOf, rangesOf, List.nil_append, List.append_nil, List.cons_append, List.getElem?_cons_zero, List.getElem?_cons_succ] at hR
    rw [show (fun (_ : Nat) (_ : Unit) (_ : Vol) => (Sum.inl () : Unit ⊕ Empty)) = fun _ s x => Sum.inl ((fun (s : Unit) (_ : Vol) => s) s x) from rfl, foldE_fold] at hR
    simp [go_sem] at hR
    simp [go_sem, h19, h28, hf, hg, hw, h33, hbr, h31, h25, hcl, hR]
end Go.Proofs.Ytlphdiccffnckaa
