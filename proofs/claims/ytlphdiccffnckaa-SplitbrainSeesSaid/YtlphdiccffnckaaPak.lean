/- Texts put together: Imh, Imi. -/
import Derived.Test.YtlphdiccffnckaaPaj

/- Layer 7: the law ImageLast. -/
namespace Go.Proofs.Ytlphdiccffnckaa
open Go Go.Abs

def secAt (c : Img) (v s : Nat) : Option Sec := (c[v]?).bind (·[s]?)
def covers (w : Wr) (v s : Nat) : Bool := decide (w.v = v) && decide (w.s ≤ s) && decide ((s : Int) - w.s < w.d.length)
def wantF (v s : Nat) (x : Sec) (w : Wr) : Sec := if covers w v s = true then (w.d[((s : Int) - w.s).toNat]?).getD x else x

theorem mWrite_get (v : Vol) (p : Nat) (d : Vol) (h : p + d.length ≤ v.length) (s : Nat) : (mWrite v p d)[s]? = if p ≤ s ∧ s < p + d.length then d[s - p]? else v[s]? := by
  unfold mWrite
  have h1 : (v.take p).length = p := by simp; omega
  have h2 : (v.take p ++ d).length = p + d.length := by simp; omega
  by_cases ha : s < p
  · rw [if_neg (by omega), List.getElem?_append_left (by omega), List.getElem?_append_left (by omega), List.getElem?_take, if_pos ha]
  by_cases hb : s < p + d.length
  · rw [if_pos (by omega), List.getElem?_append_left (by omega), List.getElem?_append_right (by omega), h1]
  · rw [if_neg (by omega), List.getElem?_append_right (by omega), h2, List.getElem?_drop]
    congr 1
    omega

theorem wantF_no {w : Wr} {v s : Nat} (h : covers w v s = false) (x : Sec) : wantF v s x w = x := by simp [wantF, h]
theorem mWr_at {c : Img} {w : Wr} (h : mFits c w = 0) (v s : Nat) : secAt (mWr c w) v s = (secAt c v s).map fun x => wantF v s x w := by
  obtain ⟨n, p, hn, e1, e2, e3, e4⟩ := mFits_zero h
  have hm : mWr c w = c.set n (mWrite c[n] p w.d) := by simp [mWr, e1, e2, hn]
  rw [hm]
  by_cases hc : n = v ∧ p ≤ s ∧ s < p + w.d.length
  · obtain ⟨rfl, hc⟩ := hc
    have hlt : s < c[n].length := by omega
    have hd : s - p < w.d.length := by omega
    have hcv : covers w n s = true := by simp [covers, e1, e2]; omega
    simp only [secAt, List.getElem?_set_self hn, List.getElem?_eq_getElem hn, Option.bind_some, mWrite_get _ _ _ e4, if_pos hc, List.getElem?_eq_getElem hlt, Option.map_some, wantF, hcv, if_true, e2, show ((s : Int) - p).toNat = s - p by omega, List.getElem?_eq_getElem hd, Option.getD_some]
  · have hcv : covers w v s = false := by
      simp only [covers, e1, e2]
      by_cases h1 : n = v
      · by_cases h2 : p ≤ s
        · simp [h1, h2]; omega
        · simp [h2]
      · simp [Int.ofNat_inj, h1]
    simp only [wantF_no hcv, Option.map_id']
    unfold secAt
    by_cases hv : n = v
    · subst hv
      rw [List.getElem?_set_self hn, List.getElem?_eq_getElem hn, Option.bind_some, Option.bind_some, mWrite_get _ _ _ e4, if_neg (by omega)]
    · rw [List.getElem?_set_ne hv]

theorem mApply_err {im : Img} : ∀ (l : List Wr) (i : Nat) (c : Img) (k : Nat) (e : Int), foldE (mApplyF im) i c l = .inr (k, e) → e ≠ 0 ∧ i ≤ k ∧ k < i + l.length
  | [], i, c, k, e, h => by simp [foldE] at h
  | w :: l, i, c, k, e, h => by
    simp only [foldE, mApplyF] at h
    by_cases hf : mFits im w = 0
    · simp only [hf, if_true] at h
      have := mApply_err l (i + 1) (mWr c w) k e h
      simp only [List.length_cons]
      omega
    · simp only [hf, if_false, Sum.inr.injEq, Prod.mk.injEq] at h
      obtain ⟨rfl, rfl⟩ := h
      simp [hf]

theorem mApply_at {im : Img} : ∀ (l : List Wr) (i : Nat) (c c' : Img), c.map List.length = im.map List.length → foldE (mApplyF im) i c l = .inl c' →
    (∀ w ∈ l, mFits im w = 0) ∧ ∀ v s, secAt c' v s = (secAt c v s).map fun x => l.foldl (wantF v s) x
  | [], i, c, c', hc, h => by
    simp only [foldE, Sum.inl.injEq] at h
    subst h
    exact ⟨fun w hw => by simp at hw, fun v s => by cases secAt c v s <;> rfl⟩
  | w :: l, i, c, c', hc, h => by
    simp only [foldE, mApplyF] at h
    by_cases hf : mFits im w = 0
    · simp only [hf, if_true] at h
      have hf' : mFits c w = 0 := by rw [mFits_sizes hc]; exact hf
      obtain ⟨h1, h2⟩ := mApply_at l (i + 1) (mWr c w) c' (by rw [mWr_sizes hf', hc]) h
      refine ⟨fun u hu => ?_, fun v s => ?_⟩
      · rcases List.mem_cons.1 hu with rfl | hu
        · exact hf
        · exact h1 u hu
      · rw [h2, mWr_at hf']
        cases secAt c v s <;> rfl
    · simp [hf] at h

theorem f5_spec (im : Img) (l : List Wr) (Y : List YF) : callS ev fs 5 [zImg im, zWrs l] [] Y = some (.ret (zB true), []) := by
  refine callS_by f5_eq rfl ?_
  simp only [bodyOf, Go.Proofs.Try.f5, Option.getD_some]
  have hw := f22_call
  have h19 := f19_spec im []
  have h28 := f28_spec l []
  simp only [go_sem] at hw h19 h28
  cases hf : mFew im
  · simp [go_sem, h19, hf, hw]
  cases hg : mFewW l
  · simp [go_sem, h19, h28, hf, hg, hw]
  obtain ⟨i1, i2⟩ := few_len hf
  obtain ⟨j1, j2⟩ := fewW hg
  have i3 : ∀ x ∈ im, x.length < 1000000000 := fun x hx => by have := i2 x hx; omega
  obtain ⟨H', h33, hH'⟩ := f33_spec im (by omega) i3 []
  have hbr : bareRet H' (.os 0 0 im.length im.length) = some (zImg im) := by
    unfold bareRet
    rw [if_neg (by simp [AV.pure]), freeze_img hH']
    rfl
  have h31 := f31_spec im l (by omega) (by omega) (fun w hw => by have := j2 w hw; omega) []
  have h25 := f25_spec im im (by omega) i3 []
  simp only [go_sem, decide_true] at h33 hbr h25
  by_cases h0 : ¬ mCheck im = 0
  · simp only [go_sem, zApply, h0, if_false] at h31
    simp [go_sem, h19, h28, hf, hg, hw, h33, hbr, h31, h0]
  replace h0 : mCheck im = 0 := by omega
  simp only [zApply, h0, if_true] at h31
  cases hr : mApply im l with
  | inr r =>
    obtain ⟨k, e⟩ := r
    simp only [go_sem, hr] at h31
    have he := (mApply_err l 0 im k e hr).1
    simp [go_sem, h19, h28, hf, hg, hw, h33, hbr, h31, he]
  | inl c =>
    have hs := mApply_sizes l 0 im c rfl hr
    obtain ⟨k1, k2⟩ := mApply_at l 0 im c rfl hr
    have hcl := sizes_len hs
    have hcv : ∀ v (h1 : v < im.length) (h2 : v < c.length), c[v].length = im[v].length := fun v h1 h2 => by
      have := congrArg (·[v]?) hs
      simpa [h1, h2] using this
    have hcs : ∀ v s (h1 : v < im.length) (h2 : v < c.length) (h3 : s < im[v].length) (h4 : s < c[v].length), c[v][s] = l.foldl (wantF v s) im[v][s] := fun v s h1 h2 h3 h4 => by
      have := k2 v s
      simpa [secAt, h1, h2, h3, h4] using this
    simp only [go_sem, hr] at h31
    obtain ⟨R, hR⟩ := fold_loop (E := ev) (C := callS ev fs) (Y := Y) (w := {}) (a := (loopsOf (bodyOf Go.Proofs.Try.f5))[0]?.getD .skip) (b := 0) 
      im (fun _ (_ : Unit) (_ : Vol) => .inl ()) () (ex := fun (r : Empty) => nomatch r)
      (fun v _ => LiveT [(1, zWrs l), (5, zImg im), (6, zImg c), (52, zI im.length), (53, zI v)] 0)
      (fun _ => LiveT [] 0) (fun r => nomatch r)
      (fun v u st hv h => by
        obtain ⟨tm, H, b⟩ := st
        simp only [bodyOf, Go.Proofs.Try.f5, Option.getD_some, loopsOf, rangesOf, List.nil_append, List.append_nil, List.cons_append, List.getElem?_cons_zero, List.getElem?_cons_succ]
        simp only [go_sem] at h
        obtain ⟨h1, h5, h6, h52, h53, rfl⟩ := h
        have hvc : v < c.length := by omega
        have hiv := i2 _ (List.getElem_mem hv)
        have hlen := hcv v hv hvc
        obtain ⟨R2, hR2⟩ := fold_loop (E := ev) (C := callS ev fs) (Y := Y) (w := {}) (a := (loopsOf (bodyOf Go.Proofs.Try.f5))[1]?.getD .skip) (b := 2) 
          im[v] (fun _ (_ : Unit) (_ : Sec) => .inl ()) () (ex := fun (r : Empty) => nomatch r)
          (fun s _ => LiveT [(1, zWrs l), (5, zImg im), (6, zImg c), (9, zI v), (52, zI im.length), (53, zI v), (71, zI im[v].length), (72, zI s)] 0)
          (fun _ => LiveT [(1, zWrs l), (5, zImg im), (6, zImg c), (52, zI im.length), (53, zI v)] 0) (fun r => nomatch r)
          (fun s u st hsl h => by
            obtain ⟨tm, H, b⟩ := st
            simp only [bodyOf, Go.Proofs.Try.f5, Option.getD_some, loopsOf, rangesOf, List.nil_append, List.append_nil, List.cons_append, List.getElem?_cons_zero, List.getElem?_cons_succ]
            simp only [go_sem] at h
            obtain ⟨g1, g5, g6, g9, g52, g53, g71, g72, rfl⟩ := h
            have hsc : s < c[v].length := by omega
            have hgoal := hcs v s hv hvc hsl hsc
            obtain ⟨R3, hR3⟩ := fold_loop (E := ev) (C := callS ev fs) (Y := Y) (w := {}) (a := (loopsOf (bodyOf Go.Proofs.Try.f5))[2]?.getD .skip) (b := 4) 
              l (fun _ x w => .inl (wantF v s x w)) im[v][s] (ex := fun (r : Empty) => nomatch r)
              (fun k x st => st.H[H.length]? = some (.box (secRow x)) ∧ LiveT [(1, zWrs l), (5, zImg im), (6, zImg c), (9, zI v), (10, zI s), (11, .bp H.length 0), (52, zI im.length), (53, zI v), (71, zI im[v].length), (72, zI s), (82, zWrs l), (83, zI l.length), (84, zI k)] 0 st)
              (fun x st => st.H[H.length]? = some (.box (secRow x)) ∧ LiveT [(1, zWrs l), (5, zImg im), (6, zImg c), (9, zI v), (10, zI s), (11, .bp H.length 0), (52, zI im.length), (53, zI v), (71, zI im[v].length), (72, zI s)] 0 st) (fun r => nomatch r)
              (fun k x st hk h => by
                obtain ⟨hH, h⟩ := h
                generalize H.length = K at hH h ⊢
                obtain ⟨tm, H, b⟩ := st
                simp only [bodyOf, Go.Proofs.Try.f5, Option.getD_some, loopsOf, rangesOf, List.nil_append, List.append_nil, List.cons_append, List.getElem?_cons_zero, List.getElem?_cons_succ]
                simp only [go_sem] at h
                obtain ⟨q1, q5, q6, q9, q10, q11, q52, q53, q71, q72, q82, q83, q84, rfl⟩ := h
                simp only at hH
                obtain ⟨n, p, hn, e1, e2, e3, e4⟩ := mFits_zero (k1 l[k] (List.getElem_mem hk))
                have hb0 := fun B => get_app (B := B) hH
                have hb1 := fun B hk => getE (hb0 B) hk
                have hKl := (List.getElem?_eq_some_iff.1 hH).1
                have hdk := j2 _ (List.getElem_mem hk)
                have hlast : ∀ e, (H ++ [e])[H.length]? = some e := fun e => by simp
                by_cases hv' : ¬ n = v
                · have hno : wantF v s x l[k] = x := wantF_no (by simp [covers, e1, Int.ofNat_inj, hv']) x
                  simp [go_sem, q1, q5, q6, q9, q10, q11, q52, q53, q71, q72, q82, q83, q84, hk, e1, e2, hb0, hb1, Int.ofNat_inj, hv', hno, show k < 1000000000 by omega]
                replace hv' : n = v := Decidable.not_not.1 hv'
                subst hv'
                by_cases hp : ¬ p ≤ s
                · have hno : wantF n s x l[k] = x := wantF_no (by simp [covers, e2, hp]) x
                  simp [go_sem, q1, q5, q6, q9, q10, q11, q52, q53, q71, q72, q82, q83, q84, hk, e1, e2, hb0, hb1, hp, hno, show k < 1000000000 by omega]
                replace hp : p ≤ s := Decidable.not_not.1 hp
                have hsub : (s : Int) - p = ((s - p : Nat) : Int) := by omega
                have hwr : IntKind.wrap .i64 ((s - p : Nat) : Int) = ((s - p : Nat) : Int) := wrap64 (by omega)
                by_cases hd : s - p < l[k].d.length
                · have hno : wantF n s x l[k] = l[k].d[s - p] := by simp [wantF, covers, e1, e2, hp, hsub, hd]
                  simp [go_sem, q1, q5, q6, q9, q10, q11, q52, q53, q71, q72, q82, q83, q84, hk, e1, e2, hb0, hb1, hp, hsub, hwr, hd, hno, hKl, show K < H.length + 1 by omega, show k < 1000000000 by omega]
                · have hno : wantF n s x l[k] = x := wantF_no (by simp [covers, e1, e2, hp, hsub]; omega) x
                  simp [go_sem, q1, q5, q6, q9, q10, q11, q52, q53, q71, q72, q82, q83, q84, hk, e1, e2, hb0, hb1, hp, hsub, hwr, hd, hno, show k < 1000000000 by omega])
              (fun x st h => by
                obtain ⟨hH, h⟩ := h
                obtain ⟨tm, H, b⟩ := st
                simp only [bodyOf, Go.Proofs.Try.f5, Option.getD_some, loopsOf, rangesOf, List.nil_append, List.append_nil, List.cons_append, List.getElem?_cons_zero, List.getElem?_cons_succ]
                simp only [go_sem] at h
                obtain ⟨q1, q5, q6, q9, q10, q11, q52, q53, q71, q72, q82, q83, q84, rfl⟩ := h
                simp [go_sem, q1, q5, q6, q9, q10, q11, q52, q53, q71, q72, q82, q83, q84, hH])
              (fun r => nomatch r)
            simp only [bodyOf, Go.Proofs.Try.f5, Option.getD_some, loopsOf, rangesOf, List.nil_append, List.append_nil, List.cons_append, List.getElem?_cons_zero, List.getElem?_cons_succ] at hR3
            rw [foldE_fold] at hR3
            simp [go_sem] at hR3
            simp [go_sem, g1, g5, g6, g9, g52, g53, g71, g72, hv, hvc, hsl, hsc, hR3, hgoal, show s < 1000000000 by omega])
          (fun u st h => by
            obtain ⟨tm, H, b⟩ := st
            simp only [bodyOf, Go.Proofs.Try.f5, Option.getD_some, loopsOf, rangesOf, List.nil_append, List.append_nil, List.cons_append, List.getElem?_cons_zero, List.getElem?_cons_succ]
            simp only [go_sem] at h
            obtain ⟨g1, g5, g6, g9, g52, g53, g71, g72, rfl⟩ := h
            simp [go_sem, g1, g5, g6, g9, g52, g53, g71, g72])
          (fun r => nomatch r)
        simp only [bodyOf, Go.Proofs.Try.f5, Option.getD_some, loopsOf, rangesOf, List.nil_append, List.append_nil, List.cons_append, List.getElem?_cons_zero, List.getElem?_cons_succ] at hR2
        rw [show (fun (_ : Nat) (_ : Unit) (_ : Sec) => (Sum.inl () : Unit ⊕ Empty)) = fun _ s x => Sum.inl ((fun (s : Unit) (_ : Sec) => s) s x) from rfl, foldE_fold] at hR2
        simp [go_sem] at hR2
        simp [go_sem, h1, h5, h6, h52, h53, hv, hvc, hlen, hR2, show v < 1000000000 by omega])
      (fun u st h => by
        obtain ⟨tm, H, b⟩ := st
        simp only [bodyOf, Go.Proofs.Try.f5, Option.getD_some, loopsOf, rangesOf, List.nil_append, List.append_nil, List.cons_append, List.getElem?_cons_zero, List.getElem?_cons_succ]
        simp only [go_sem] at h
        obtain ⟨h1, h5, h6, h52, h53, rfl⟩ := h
        simp [go_sem, h1, h5, h6, h52, h53])
      (fun r => nomatch r)
    simp only [bodyOf, Go.Proofs.Try.f5, Option.getD_some, loopsOf, rangesOf, List.nil_append, List.append_nil, List.cons_append, List.getElem?_cons_zero, List.getElem?_cons_succ] at hR
    rw [show (fun (_ : Nat) (_ : Unit) (_ : Vol) => (Sum.inl () : Unit ⊕ Empty)) = fun _ s x => Sum.inl ((fun (s : Unit) (_ : Vol) => s) s x) from rfl, foldE_fold] at hR
    simp [go_sem] at hR
    simp [go_sem, h19, h28, hf, hg, hw, h33, hbr, h31, h25, hcl, hR]
end Go.Proofs.Ytlphdiccffnckaa

/- Layer 7: where two volumes differ. -/
namespace Go.Proofs.Ytlphdiccffnckaa
open Go Go.Abs

@[go_sem] theorem eql_ext (a b : Ext) : aBin ev.T .eql 59 (.agg [.sc (.int .i64 a.s), .sc (.int .i64 a.n)]) (.agg [.sc (.int .i64 b.s), .sc (.int .i64 b.n)]) = some (.sc (.bool (decide (a = b)))) := by
  have h : eqShape (ev.T.eqc 59) [.sc (.int .i64 a.s), .sc (.int .i64 a.n)] = true := rfl
  obtain ⟨a1, a2⟩ := a
  obtain ⟨b1, b2⟩ := b
  simp only [aBin, h, if_true, aggEq, scEq, Option.bind_some, Option.map_some]
  by_cases h1 : a1 = b1 <;> by_cases h2 : a2 = b2 <;> simp [h1, h2]
@[go_sem] theorem neq_ext (a b : Ext) : aBin ev.T .neq 59 (.agg [.sc (.int .i64 a.s), .sc (.int .i64 a.n)]) (.agg [.sc (.int .i64 b.s), .sc (.int .i64 b.n)]) = some (.sc (.bool (!decide (a = b)))) := by
  have h : eqShape (ev.T.eqc 59) [.sc (.int .i64 a.s), .sc (.int .i64 a.n)] = true := rfl
  obtain ⟨a1, a2⟩ := a
  obtain ⟨b1, b2⟩ := b
  simp only [aBin, h, if_true, aggEq, scEq, Option.bind_some, Option.map_some]
  by_cases h1 : a1 = b1 <;> by_cases h2 : a2 = b2 <;> simp [h1, h2]

/-- The indices at which two volumes differ, as they are yielded. -/
def diffF {σ ρ : Type} (f : Nat → σ → σ) (b : Vol) (i : Nat) (s : σ) (x : Sec) : σ ⊕ ρ := .inl (if some x = b[i]? then s else f i s)

theorem f223_spec {σ : Type} (f : Nat → σ → σ) (P : Nat → σ → List Ent → Prop) (va vb : Vol) (ka kb j L : Nat) (y : YF) (Y : List YF) (s0 s1 : σ) (H : List Ent) (hab : va.length = vb.length) (hl : va.length < 1000000000) (hy : Y[j]? = some y)
    (hP : ∀ i s H, P i s H → H[ka]? = some (.box [zVol va]) ∧ H[kb]? = some (.box [zVol vb]) ∧ H.length = L)
    (hskip : ∀ i s H, i < va.length → P i s H → P (i + 1) s H)
    (hyield : ∀ i s H, i < va.length → P i s H → ∃ H', y [zI i] H = some (.ret (.sc (.bool true)), H') ∧ P (i + 1) (f i s) H')
    (h0 : P 0 s0 H) (hs : foldE (ρ := Empty) (diffF f vb) 0 s0 va = .inl s1) :
    ∃ H', callS ev fs 223 [.yl j, .bp ka 0, .bp kb 0] H Y = some (.ret (.tup []), H') ∧ P va.length s1 H' := by
  have hL := (hP _ _ _ h0).2.2
  obtain ⟨R, hR⟩ := fold_loop (E := ev) (C := callS ev fs) (Y := Y) (w := {}) (a := (loopsOf (bodyOf Go.Proofs.Try.f223))[0]?.getD .skip) (b := 0) 
    va (diffF f vb) s0 (ex := fun (r : Empty) => nomatch r)
    (fun i s st => P i s st.H ∧ LiveT [(0, .yl j), (1, .bp ka 0), (2, .bp kb 0), (6, zI va.length), (7, zI i)] L st)
    (fun s st => P va.length s st.H ∧ LiveT [] L st) (fun r => nomatch r)
    (fun i s st hi h => by
      obtain ⟨hp, h⟩ := h
      obtain ⟨tm, H, b⟩ := st
      simp only [bodyOf, Go.Proofs.Try.f223, Option.getD_some, loopsOf, rangesOf, List.nil_append, List.append_nil, List.cons_append, List.getElem?_cons_zero, List.getElem?_cons_succ]
      simp only [go_sem] at h
      obtain ⟨q0, q1, q2, q6, q7, rfl⟩ := h
      simp only at hp
      obtain ⟨p1, p2, p3⟩ := hP _ _ _ hp
      have hib : i < vb.length := by omega
      simp only [go_sem] at p1 p2
      by_cases he : va[i] = vb[i]
      · have hsk := hskip _ _ _ hi hp
        simp [go_sem, q0, q1, q2, q6, q7, hi, hib, p1, p2, he, diffF, hsk, show i < 1000000000 by omega]
      · obtain ⟨H', y1, y2⟩ := hyield _ _ _ hi hp
        simp only [go_sem] at y1
        simp [go_sem, q0, q1, q2, q6, q7, hi, hib, p1, p2, he, hy, y1, y2, diffF, show i < 1000000000 by omega])
    (fun s st h => by
      obtain ⟨hp, h⟩ := h
      obtain ⟨tm, H, b⟩ := st
      simp only [bodyOf, Go.Proofs.Try.f223, Option.getD_some, loopsOf, rangesOf, List.nil_append, List.append_nil, List.cons_append, List.getElem?_cons_zero, List.getElem?_cons_succ]
      simp only [go_sem] at h
      obtain ⟨q0, q1, q2, q6, q7, rfl⟩ := h
      simp only at hp
      simp [go_sem, q0, q1, q2, q6, q7, hp])
    (fun r => nomatch r)
  rw [hs] at hR
  obtain ⟨p1, p2, p3⟩ := hP _ _ _ h0
  simp only [go_sem] at p1 p2
  simp only [bodyOf, Go.Proofs.Try.f223, Option.getD_some, loopsOf, rangesOf, List.nil_append, List.append_nil, List.cons_append, List.getElem?_cons_zero, List.getElem?_cons_succ] at hR
  simp [go_sem] at hR
  have hT : ∀ st, P 0 s0 st.H → st.tm.get 0 = .yl j → st.tm.get 1 = .bp ka 0 → st.tm.get 2 = .bp kb 0 → st.tm.get 6 = zI va.length → st.tm.get 7 = zI 0 → st.b = L → (R st).H.take L = (R st).H := fun st a1 a2 a3 a4 a5 a6 a7 => by
    obtain ⟨_, h1, _⟩ := hR st a1 a2 a3 a4 a5 a6 a7
    exact List.take_of_length_le (by rw [(hP _ _ _ h1).2.2]; exact Nat.le_refl _)
  obtain ⟨H', h1, h2⟩ : ∃ H', outC ev.T [] false H.length (dn ev (callS ev fs) Y {} (bodyOf Go.Proofs.Try.f223) { tm := Slots.init 0 [.yl j, .bp ka 0, .bp kb 0], H := H, b := H.length }) = some (.ret (.tup []), H') ∧ P va.length s1 H' := by
    simp only [bodyOf, Go.Proofs.Try.f223, Option.getD_some]
    simp only [go_sem] at hT
    rw [hL]
    simp [go_sem, p1, h0, hR, hT]
  exact ⟨H', callS_by f223_eq rfl h1, h2⟩

/-- One more index at which two volumes differ. -/
def extStep (i : Nat) (out : List Ext) : List Ext := match out.getLast? with
  | some x => if x.s + x.n = i then out.dropLast ++ [⟨x.s, x.n + 1⟩] else out ++ [⟨i, 1⟩]
  | none => [⟨i, 1⟩]
def endOf (out : List Ext) : Int := match out.getLast? with
  | some x => x.s + x.n
  | none => -1
def mExt (va vb : Vol) : List Ext := match foldE (ρ := Empty) (diffF extStep vb) 0 [] va with
  | .inl s => s
@[go_sem] def zExts (l : List Ext) : AV := .sl false 2 (l.map fun e => [.sc (.int .i64 e.s), .sc (.int .i64 e.n)])
def extRows (l : List Ext) : List (List AV) := l.map fun e => [.sc (.int .i64 e.s), .sc (.int .i64 e.n)]
def okOut (i : Nat) (out : List Ext) : Prop := ∀ x ∈ out, 0 ≤ x.s ∧ 1 ≤ x.n ∧ x.s + x.n ≤ i
theorem okOut.step {i : Nat} {out : List Ext} (h : okOut i out) : okOut (i + 1) (extStep i out) := by
  intro x hx
  unfold extStep at hx
  split at hx
  · rename_i y hy
    have hm := List.mem_of_getLast? hy
    split at hx
    · rw [List.mem_append, List.mem_singleton] at hx
      rcases hx with hx | rfl
      · have := h x (List.dropLast_subset _ hx); omega
      · have := h y hm; simp only; omega
    · rw [List.mem_append, List.mem_singleton] at hx
      rcases hx with hx | rfl
      · have := h x hx; omega
      · simp only; omega
  · rw [List.mem_singleton] at hx
    subst hx
    simp only
    omega
theorem okOut.mono {i : Nat} {out : List Ext} (h : okOut i out) : okOut (i + 1) out := fun x hx => by have := h x hx; omega
theorem extStep_end {i : Nat} {out : List Ext} : endOf (extStep i out) = i + 1 := by
  unfold extStep
  cases h : out.getLast? with
  | none => simp [endOf]
  | some x =>
    by_cases hx : x.s + x.n = i
    · simp [endOf, hx]; omega
    · simp [endOf, hx]

/-- The entities while extents are gathered. -/
def entsE (va vb : Vol) (out : List Ext) (lp : LoopState) : List Ent :=
  [.box [.os 1 0 out.length out.length], .own out.length 2 (extRows out), .box [zI (endOf out)], .box [zVol va], .box [zVol vb], .loop lp none]

theorem room1 : room 1 16 = true := room_ok (by omega) (by omega) (by omega)
theorem f100_round (va vb : Vol) (out : List Ext) (i : Nat) (tm : Slots) (h5 : tm.get 5 = .bp 0 0) (h6 : tm.get 6 = .bp 2 0) (ho : okOut i out) (hol : out.length < 100000000) (hi : i < 1000000000) (Y : List YF) :
    roundOf [11] tm 5 (dn ev (callS ev fs) Y w100 ((rangesOf (bodyOf Go.Proofs.Try.f100))[0]?.getD (.skip, .skip)).1) (dn ev (callS ev fs) Y w100 ((rangesOf (bodyOf Go.Proofs.Try.f100))[0]?.getD (.skip, .skip)).2) [zI i] (entsE va vb out .ready) =
      some (.ret (.sc (.bool true)), entsE va vb (extStep i out) .ready) := by
  simp only [bodyOf, Go.Proofs.Try.f100, Option.getD_some, rangesOf, List.nil_append, List.append_nil, List.cons_append, List.getElem?_cons_zero]
  have hr : room (out.length + 1) 16 = true := room_ok (by omega) (by omega) (by omega)
  rcases List.eq_nil_or_concat out with rfl | ⟨init, x, rfl⟩
  · simp [roundOf, roundEnd, entsE, endOf, extRows, extStep, Slots.putAll, Slots.put, refCells, refCell, room1, go_sem, h5, h6, hr, hi]
    done
  · simp only [List.concat_eq_append] at ho hol hr ⊢
    have hil : init.length < 1000000000 := by simp at hol; omega
    simp only [List.length_append, List.length_singleton] at hr
    have he : endOf (init ++ [x]) = x.s + x.n := by simp [endOf]
    have hx := ho x (by simp)
    by_cases hxi : x.s + x.n = i
    · have hst : extStep i (init ++ [x]) = init ++ [⟨x.s, x.n + 1⟩] := by simp [extStep, hxi]
      have hw := wrap64 (x := x.n + 1) (by omega)
      have he2 : endOf (init ++ [⟨x.s, x.n + 1⟩]) = (i : Int) + 1 := by simp [endOf]; omega
      simp [roundOf, roundEnd, entsE, he, he2, hst, extRows, Slots.putAll, Slots.put, refCells, refCell, room1, go_sem, h5, h6, hr, hxi, hw, hil, show i < 1000000000 by omega]
      done
    · have hst : extStep i (init ++ [x]) = init ++ [x] ++ [⟨i, 1⟩] := by simp [extStep, hxi]
      have he2 : endOf (init ++ [x] ++ [⟨i, 1⟩]) = (i : Int) + 1 := by simp [endOf]
      simp [roundOf, roundEnd, entsE, he, he2, hst, extRows, Slots.putAll, Slots.put, refCells, refCell, room1, go_sem, h5, h6, hr, Ne.symm hxi, hil, show i < 1000000000 by omega]
      refine ⟨?_, by simp [endOf]⟩
      rw [List.take_of_length_le (by simp)]
      simp

/-- Where the extents are gathered. -/
theorem mExt_bound (va vb : Vol) : ∀ (l : Vol) (i : Nat) (out out' : List Ext), okOut i out → out.length ≤ i → foldE (ρ := Empty) (diffF extStep vb) i out l = .inl out' → okOut (i + l.length) out' ∧ out'.length ≤ i + l.length
  | [], i, out, out', h1, h2, h => by
    simp only [foldE, Sum.inl.injEq] at h
    subst h
    exact ⟨h1, h2⟩
  | x :: l, i, out, out', h1, h2, h => by
    simp only [foldE, diffF] at h
    have hs : (extStep i out).length ≤ i + 1 := by
      unfold extStep
      split
      · split
        · simp; omega
        · simp; omega
      · simp
    have := mExt_bound va vb l (i + 1) _ out' (by split; exact h1.mono; exact h1.step) (by split; omega; exact hs) h
    simp only [List.length_cons]
    rw [show i + (l.length + 1) = i + 1 + l.length by omega]
    exact this

theorem f181_spec (va vb : Vol) (H : List Ent) (Y : List YF) : callS ev fs 181 [zVol va, zVol vb] H Y = some (.ret (.fn 223 [.bp H.length 0, .bp (H.length + 1) 0]), H ++ [.box [zVol va], .box [zVol vb]]) := by
  refine callS_by f181_eq rfl ?_
  simp only [bodyOf, Go.Proofs.Try.f181, Option.getD_some]
  simp [go_sem]

theorem f100_range (va vb : Vol) (hab : va.length = vb.length) (hl : va.length < 100000000) (st : St) (h5 : st.tm.get 5 = .bp 0 0) (h6 : st.tm.get 6 = .bp 2 0) (hH : st.H = [.box [.os 1 0 0 0], .own 0 2 [], .box [zI (-1)], .box [zVol va], .box [zVol vb]]) (Y : List YF) :
    rangeFn (callS ev fs) Y (.fn 223 [.bp 3 0, .bp 4 0]) [11] (dn ev (callS ev fs) Y w100 ((rangesOf (bodyOf Go.Proofs.Try.f100))[0]?.getD (.skip, .skip)).1) (dn ev (callS ev fs) Y w100 ((rangesOf (bodyOf Go.Proofs.Try.f100))[0]?.getD (.skip, .skip)).2) st =
      some (.normal, { st with H := (entsE va vb (mExt va vb) .ready).take 5 }) := by
  obtain ⟨tm, H, b⟩ := st
  simp only at h5 h6 hH
  subst hH
  obtain ⟨out, hout⟩ : ∃ out, foldE (ρ := Empty) (diffF extStep vb) 0 [] va = .inl out := by
    cases h : foldE (ρ := Empty) (diffF extStep vb) 0 [] va with
    | inl s => exact ⟨s, rfl⟩
    | inr r => exact nomatch r
  have hm : mExt va vb = out := by unfold mExt; rw [hout]
  obtain ⟨H', h1, h2⟩ := f223_spec extStep (fun i out H => H = entsE va vb out .ready ∧ okOut i out ∧ out.length ≤ i ∧ i ≤ va.length) va vb 3 4 Y.length 6
    (roundOf [11] tm 5 (dn ev (callS ev fs) Y w100 ((rangesOf (bodyOf Go.Proofs.Try.f100))[0]?.getD (.skip, .skip)).1) (dn ev (callS ev fs) Y w100 ((rangesOf (bodyOf Go.Proofs.Try.f100))[0]?.getD (.skip, .skip)).2))
    (Y ++ [roundOf [11] tm 5 (dn ev (callS ev fs) Y w100 ((rangesOf (bodyOf Go.Proofs.Try.f100))[0]?.getD (.skip, .skip)).1) (dn ev (callS ev fs) Y w100 ((rangesOf (bodyOf Go.Proofs.Try.f100))[0]?.getD (.skip, .skip)).2)])
    [] out (entsE va vb [] .ready) hab (by omega) (by simp) (fun i s H h => by rw [h.1]; exact ⟨rfl, rfl, rfl⟩)
    (fun i s H hi h => ⟨h.1, h.2.1.mono, by omega, by omega⟩) (fun i s H hi h => by
      obtain ⟨rfl, q1, q2, q3⟩ := h
      refine ⟨_, f100_round va vb s i tm h5 h6 q1 (by omega) (by omega) Y, rfl, q1.step, ?_, by omega⟩
      unfold extStep
      split
      · split
        · simp; omega
        · simp; omega
      · simp) ⟨rfl, by intro x hx; simp at hx, by simp, by omega⟩ hout
  obtain ⟨rfl, _⟩ := h2
  rw [hm]
  unfold rangeFn
  simp only
  have he : ([.box [.os 1 0 0 0], .own 0 2 [], .box [zI (-1)], .box [zVol va], .box [zVol vb]] : List Ent) ++ [.loop .ready none] = entsE va vb [] .ready := rfl
  have hlen : ([.box [.os 1 0 0 0], .own 0 2 [], .box [zI (-1)], .box [zVol va], .box [zVol vb]] : List Ent).length = 5 := rfl
  rw [he, hlen, h1]
  rfl

theorem f100_spec (va vb : Vol) (hab : va.length = vb.length) (hl : va.length < 100000000) (Y : List YF) : callS ev fs 100 [zVol va, zVol vb] [] Y = some (.ret (zExts (mExt va vb)), []) := by
  refine callS_by f100_eq rfl ?_
  simp only [bodyOf, Go.Proofs.Try.f100, Option.getD_some]
  have h1 := fun H => f181_spec va vb H Y
  have h2 := fun st a b c => f100_range va vb hab hl st a b c Y
  simp only [bodyOf, Go.Proofs.Try.f100, Option.getD_some, rangesOf, List.nil_append, List.append_nil, List.cons_append, List.getElem?_cons_zero, go_sem] at h1 h2
  simp [go_sem, freeze_os, h1, h2, entsE, extRows]
end Go.Proofs.Ytlphdiccffnckaa

