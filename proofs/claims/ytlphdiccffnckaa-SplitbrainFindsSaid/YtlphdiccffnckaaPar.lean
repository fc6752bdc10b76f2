/- Texts put together: Iou. -/
import Derived.Test.YtlphdiccffnckaaPaq
import Derived.Test.YtlphdiccffnckaaPal

/- Layer 54: the law SplitbrainFinds. -/
namespace Go.Proofs.Ytlphdiccffnckaa
open Go Go.Abs
theorem f14_eq : fs 14 = some (mkFn {} Go.Proofs.Try.f14 (bodyOf Go.Proofs.Try.f14)) := by kernel_rfl

@[go_sem] theorem neq_sp (x y : Sp) : aBin ev.T .neq 143 (.agg [.sc (.int .i64 x.e), .sc (.int .i64 x.f), .sc (.int .i64 x.t)]) (.agg [.sc (.int .i64 y.e), .sc (.int .i64 y.f), .sc (.int .i64 y.t)]) = some (.sc (.bool (!decide (x = y)))) := by
  have h : eqShape (ev.T.eqc 143) [.sc (.int .i64 x.e), .sc (.int .i64 x.f), .sc (.int .i64 x.t)] = true := rfl
  obtain ⟨a1, a2, a3⟩ := x
  obtain ⟨b1, b2, b3⟩ := y
  simp only [aBin, h, if_true, aggEq, scEq, Option.bind_some, Option.map_some]
  by_cases h1 : a1 = b1 <;> by_cases h2 : a2 = b2 <;> by_cases h3 : a3 = b3 <;> simp [h1, h2, h3]

theorem f49_spec (a b : List Sp) (hl : a.length < 1000000000) (Y : List YF) : callS ev fs 49 [zSps a, zSps b] [] Y = some (.ret (zB (decide (a = b))), []) := by
  refine callS_by f49_eq rfl ?_
  simp only [bodyOf, Go.Proofs.Try.f49, Option.getD_some]
  by_cases h1 : a.length ≠ b.length
  · have hm : ¬ a = b := fun h => h1 (by rw [h])
    simp [go_sem, h1, hm, Int.ofNat_inj]
  replace h1 : a.length = b.length := by omega
  obtain ⟨R, hR⟩ := fold_loop (E := ev) (C := callS ev fs) (Y := Y) (w := {}) (a := (loopsOf (bodyOf Go.Proofs.Try.f49))[0]?.getD .skip) (b := 0) 
    a (fun i (_ : Unit) x => if some x = b[i]? then .inl () else .inr ()) () (ex := fun _ => .ret)
    (fun i _ => Live [(0, zSps a), (1, zSps b), (5, zI i)] [] 0) (fun _ => Live [] [] 0) (fun _ => Live [(4, zB false)] [] 0)
    (fun i s st hi h => by
      obtain ⟨tm, H, b⟩ := st
      simp only [bodyOf, Go.Proofs.Try.f49, Option.getD_some, loopsOf, rangesOf, List.nil_append, List.append_nil, List.cons_append, List.getElem?_cons_zero, List.getElem?_cons_succ]
      simp only [go_sem] at h
      obtain ⟨h0, h1', h5, rfl, rfl⟩ := h
      have hib : i < b.length := by omega
      by_cases hp : a[i] = b[i]
      · simp [go_sem, h0, h1', h5, hi, hib, hp, show i < 1000000000 by omega]
      · simp [go_sem, h0, h1', h5, hi, hib, hp])
    (fun s st h => by
      obtain ⟨tm, H, b⟩ := st
      simp only [bodyOf, Go.Proofs.Try.f49, Option.getD_some, loopsOf, rangesOf, List.nil_append, List.append_nil, List.cons_append, List.getElem?_cons_zero, List.getElem?_cons_succ]
      simp only [go_sem] at h
      obtain ⟨h0, h1', h5, rfl, rfl⟩ := h
      simp [go_sem, h0, h5])
    (fun _ h => by cases h)
  simp only [bodyOf, Go.Proofs.Try.f49, Option.getD_some, loopsOf, rangesOf, List.nil_append, List.append_nil, List.cons_append, List.getElem?_cons_zero, List.getElem?_cons_succ] at hR
  rw [foldE_eq b a 0 (by omega), List.drop_zero] at hR
  by_cases hab : a = b
  · simp [go_sem, hab] at hR
    simp [go_sem, hab, hR]
  · simp [go_sem, hab] at hR
    simp [go_sem, hab, h1, hR]
theorem f71_same (s : Site) (hl : s.lin.length < 1000000000) (Y : List YF) : callS ev fs 71 [.agg (siteRow s), .agg (siteRow s)] [] Y = some (.ret (zB true), []) := by
  refine callS_by f71_eq rfl ?_
  simp only [bodyOf, Go.Proofs.Try.f71, Option.getD_some]
  have h := f49_spec s.lin s.lin hl []
  simp only [go_sem, decide_true] at h
  simp [go_sem, h]
theorem f70_same (l : List Site) (hl : siteLen l) (Y : List YF) : callS ev fs 70 [zSites l, zSites l, .fn 71 []] [] Y = some (.ret (zB true), []) := by
  refine callS_by f70_eq rfl ?_
  simp only [bodyOf, Go.Proofs.Try.f70, Option.getD_some]
  have hln := hl.1
  obtain ⟨R, hR⟩ := fold_loop (E := ev) (C := callS ev fs) (Y := Y) (w := w70) (a := (loopsOf (bodyOf Go.Proofs.Try.f70))[0]?.getD .skip) (b := 0) 
    l (fun _ (_ : Unit) _ => .inl ()) () (ex := fun (r : Empty) => nomatch r)
    (fun i _ st => LiveT [(1, zSites l), (2, .fn 71 []), (15, zSites l), (16, zI l.length), (17, zI i)] 0 st) (fun _ => LiveT [] 0) (fun r => nomatch r)
    (fun i s st hi h => by
      obtain ⟨tm, H, b⟩ := st
      simp only [bodyOf, Go.Proofs.Try.f70, Option.getD_some, loopsOf, rangesOf, List.nil_append, List.append_nil, List.cons_append, List.getElem?_cons_zero, List.getElem?_cons_succ]
      simp only [go_sem] at h
      obtain ⟨h1, h2, h15, h16, h17, rfl⟩ := h
      have hc := f71_same l[i] (hl.2 _ (List.getElem_mem hi)) []
      simp only [go_sem] at hc
      simp [go_sem, h1, h2, h15, h16, h17, hi, hc, show i < 1000000000 by omega])
    (fun s st h => by
      obtain ⟨tm, H, b⟩ := st
      simp only [bodyOf, Go.Proofs.Try.f70, Option.getD_some, loopsOf, rangesOf, List.nil_append, List.append_nil, List.cons_append, List.getElem?_cons_zero, List.getElem?_cons_succ]
      simp only [go_sem] at h
      obtain ⟨h1, h2, h15, h16, h17, rfl⟩ := h
      simp [go_sem, h1, h2, h15, h16, h17])
    (fun r => nomatch r)
  simp only [bodyOf, Go.Proofs.Try.f70, Option.getD_some, loopsOf, rangesOf, List.nil_append, List.append_nil, List.cons_append, List.getElem?_cons_zero, List.getElem?_cons_succ] at hR
  rw [foldE_fold (fun _ _ => ())] at hR
  simp [go_sem] at hR
  simp [go_sem, hR]
theorem f70_nil' : callN ev fs 10 70 [.sc (.slice none 0 0), .sc (.slice none 0 0), .fn 71 []] [] [] = some (.ret (zB true), []) := by kernel_rfl
theorem f70_nil : callS ev fs 70 [.sc (.slice none 0 0), .sc (.slice none 0 0), .fn 71 []] [] [] = some (.ret (zB true), []) := callS_iff.2 ⟨10, f70_nil'⟩
theorem f50_nil' : callN ev fs 10 50 [.sc (.slice none 0 0), .sc (.slice none 0 0)] [] [] = some (.ret (zB true), []) := by kernel_rfl
theorem f50_nil : callS ev fs 50 [.sc (.slice none 0 0), .sc (.slice none 0 0)] [] [] = some (.ret (zB true), []) := callS_iff.2 ⟨10, f50_nil'⟩
theorem f69_nil' : callN ev fs 10 69 [.sc (.slice none 0 0), .sc (.slice none 0 0)] [] [] = some (.ret (zB true), []) := by kernel_rfl
theorem f69_nil : callS ev fs 69 [.sc (.slice none 0 0), .sc (.slice none 0 0)] [] [] = some (.ret (zB true), []) := callS_iff.2 ⟨10, f69_nil'⟩

theorem f69_same (p : List (Nat × Nat)) (hl : p.length < 100000000) (Y : List YF) : callS ev fs 69 [zPairs p, zPairs p] [] Y = some (.ret (zB true), []) := by
  refine callS_by f69_eq rfl ?_
  simp only [bodyOf, Go.Proofs.Try.f69, Option.getD_some]
  obtain ⟨R, hR⟩ := fold_loop (E := ev) (C := callS ev fs) (Y := Y) (w := {}) (a := (loopsOf (bodyOf Go.Proofs.Try.f69))[0]?.getD .skip) (b := 0) 
    p (fun _ (_ : Unit) _ => .inl ()) () (ex := fun (r : Empty) => nomatch r)
    (fun i _ => Live [(0, zPairs p), (1, zPairs p), (5, zI i)] [] 0) (fun _ => Live [] [] 0) (fun r => nomatch r)
    (fun i s st hi h => by
      obtain ⟨tm, H, b⟩ := st
      simp only [bodyOf, Go.Proofs.Try.f69, Option.getD_some, loopsOf, rangesOf, List.nil_append, List.append_nil, List.cons_append, List.getElem?_cons_zero, List.getElem?_cons_succ]
      simp only [go_sem] at h
      obtain ⟨h0, h1, h5, rfl, rfl⟩ := h
      simp [go_sem, h0, h1, h5, hi, loopC_eq, show i < 1000000000 by omega, show IntKind.wrap .i64 1 = 1 by decide, show IntKind.wrap .i64 2 = 2 by decide])
    (fun s st h => by
      obtain ⟨tm, H, b⟩ := st
      simp only [bodyOf, Go.Proofs.Try.f69, Option.getD_some, loopsOf, rangesOf, List.nil_append, List.append_nil, List.cons_append, List.getElem?_cons_zero, List.getElem?_cons_succ]
      simp only [go_sem] at h
      obtain ⟨h0, h1, h5, rfl, rfl⟩ := h
      simp [go_sem, h0, h1, h5])
    (fun r => nomatch r)
  simp only [bodyOf, Go.Proofs.Try.f69, Option.getD_some, loopsOf, rangesOf, List.nil_append, List.append_nil, List.cons_append, List.getElem?_cons_zero, List.getElem?_cons_succ] at hR
  rw [foldE_fold (fun _ _ => ())] at hR
  simp [go_sem] at hR
  simp [go_sem, hR]

theorem mRes_ok {l : List Site} {w : Int} {r : List Site × List Int} (h : mRes l w = .inl r) : mSites l = 0 ∧ ∃ n : Nat, ∃ hn : n < l.length, w = n ∧ (l[n].role = 1 ∨ l[n].role = 2 ∨ l[n].role = 3) ∧ r = resOut l[n] n l := by
  unfold mRes at h
  split at h
  · rename_i h0
    split at h
    · rename_i hw
      split at h
      · rename_i b hb
        split at h
        · rename_i hr
          obtain ⟨hn, rfl⟩ := List.getElem?_eq_some_iff.1 hb
          refine ⟨h0, w.toNat, hn, by omega, hr, ?_⟩
          cases h
          rw [show ((w.toNat : Nat) : Int) = w by omega]
        · cases h
      · cases h
    · cases h
  · cases h
theorem res_lin (best : Site) (w : Int) (m : Nat) : ∀ (l : List Site) (i : Nat) (r r' : List Site × List Int), (∀ s ∈ l, s.lin.length < m) → (∀ s ∈ r.1, s.lin.length < m) → foldE (resF best w) i r l = .inl r' → ∀ s ∈ r'.1, s.lin.length < m
  | [], i, r, r', _, hr, h => by simp only [foldE, Sum.inl.injEq] at h; subst h; exact hr
  | x :: l, i, r, r', hl, hr, h => by
    simp only [foldE, resF] at h
    refine res_lin best w m l _ _ _ (fun s hs => hl s (by simp [hs])) ?_ h
    intro s hs
    have hx := hl x (by simp)
    split at hs <;> simp only [List.mem_append, List.mem_singleton] at hs <;> rcases hs with hs | rfl
    · exact hr s hs
    · exact hx
    · exact hr s hs
    · exact hx

theorem f14_spec (l : List Site) (w : Int) (Y : List YF) : callS ev fs 14 [zSites l, zI w] [] Y = some (.ret (zB true), []) := by
  refine callS_by f14_eq rfl ?_
  simp only [bodyOf, Go.Proofs.Try.f14, Option.getD_some]
  have hw := f61_call
  have h64 := f64_spec l []
  simp only [go_sem] at hw h64
  cases c0 : fewS l
  · simp [go_sem, h64, c0, hw]
  obtain ⟨hl8, hl20⟩ := few_sites c0
  have hl : siteLen l := ⟨by omega, fun s hs => by have := hl20 s hs; omega⟩
  have h65 := f65_spec l hl []
  have h66 := f66_spec l hl []
  have h67 := f67_spec l w hl []
  have h68 := f68_spec l w hl []
  have key : ∃ p x y z e, zDiv l = .tup [p, zI e] ∧ zRes (mRes l w) = .tup [x, y, zI z] ∧ AV.pure p = true ∧ AV.pure x = true ∧ AV.pure y = true ∧ callS ev fs 69 [p, p] [] [] = some (.ret (zB true), []) ∧
      callS ev fs 70 [x, x, .fn 71 []] [] [] = some (.ret (zB true), []) ∧ callS ev fs 50 [y, y] [] [] = some (.ret (zB true), []) := by
    have hd : ∃ p e, zDiv l = .tup [p, zI e] ∧ AV.pure p = true ∧ callS ev fs 69 [p, p] [] [] = some (.ret (zB true), []) := by
      unfold zDiv
      by_cases h : mSites l = 0
      · rw [if_pos h]
        have h1 := div_len l l 0 [] _ (div_fold l)
        have h2 : l.length * l.length ≤ 8 * 8 := Nat.mul_le_mul hl8 hl8
        exact ⟨_, _, rfl, rfl, f69_same _ (by simp at h1; omega) []⟩
      · rw [if_neg h]
        exact ⟨_, _, rfl, rfl, f69_nil⟩
    obtain ⟨p, e, d1, d2, d3⟩ := hd
    cases hr : mRes l w with
    | inr z => exact ⟨p, _, _, z, e, d1, rfl, d2, rfl, rfl, d3, f70_nil, f50_nil⟩
    | inl r =>
      obtain ⟨h0, n, hn, rfl, _, rfl⟩ := mRes_ok hr
      obtain ⟨e1, e2⟩ := res_len l[n] n l 0 ([], []) _ (resOut_fold l[n] n l)
      have e3 := res_lin l[n] n 1000000000 l 0 ([], []) _ hl.2 (by simp) (resOut_fold l[n] n l)
      simp only [List.length_nil, Nat.zero_add] at e1 e2
      have h50 := f50_spec (resOut l[n] n l).2 (resOut l[n] n l).2 (by omega) []
      simp only [decide_true] at h50
      exact ⟨p, _, _, 0, e, d1, rfl, d2, rfl, rfl, d3, f70_same _ ⟨by omega, e3⟩ [], h50⟩
  obtain ⟨p, x, y, z, e, k1, k2, k3, k4, k5, k6, k7, k8⟩ := key
  rw [k1] at h65 h66
  rw [k2] at h67 h68
  simp only [go_sem] at h65 h66 h67 h68 k6 k7 k8
  simp [go_sem, h64, c0, hw, h65, h66, h67, h68, k3, k4, k5, k6, k7, k8]
end Go.Proofs.Ytlphdiccffnckaa

