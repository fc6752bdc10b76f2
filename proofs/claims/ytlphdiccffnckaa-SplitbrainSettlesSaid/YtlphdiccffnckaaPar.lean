/- Texts put together: Iou, Iow, Iox, Ioy. -/
import Derived.Test.YtlphdiccffnckaaPaq
import Derived.Test.YtlphdiccffnckaaPal

/- Layer 54: the law SplitbrainFinds. -/
namespace Go.Proofs.Ytlphdiccffnckaa
open Go Go.Abs
theorem f14_eq : fs 14 = some (mkFn {} Go.Proofs.Try.f14 (bodyOf Go.Proofs.Try.f14)) := by kernel_rfl

@[go_sem] theorem neq_sp (x y : Sp) : aBin ev.T .neq 143 (.agg [.sc (.int .i64 x.e), .sc (.int .i64 x.f), .sc (.int .i64 x.t)]) (.agg [.sc (.int .i64 y.e), .sc (.int .i64 y.f), .sc (.int .i64 y.t)]) = some (.sc (.bool (!decide (x = y)))) := by
  have h : eqShape (ev.T.eqc 143) [.sc (.int .i64 x.e), .sc (.int .i64 x.f), .sc (.int .i64 x.t)] = true := rfl
  obtain ⟨a1, a2, a3⟩ := x
  obtain ⟨b1, b2, b3⟩ := y
  simp only [aBin, h, if_true, aggEq, scEq, Option.bind_some, Option.map_some]
  by_cases h1 : a1 = b1 <;> by_cases h2 : a2 = b2 <;> by_cases h3 : a3 = b3 <;> simp [h1, h2, h3]

theorem f49_spec (a b : List Sp) (hl : a.length < 1000000000) (Y : List YF) : callS ev fs 49 [zSps a, zSps b] [] Y = some (.ret (zB (decide (a = b))), []) := by
  refine callS_by f49_eq rfl ?_
  simp only [bodyOf, Go.Proofs.Try.f49, Option.getD_some]
  by_cases h1 : a.length ≠ b.length
  · have hm : ¬ a = b := fun h => h1 (by rw [h])
    simp [go_sem, h1, hm, Int.ofNat_inj]
  replace h1 : a.length = b.length := by omega
  obtain ⟨R, hR⟩ := fold_loop (E := ev) (C := callS ev fs) (Y := Y) (w := {}) (a := (loopsOf (bodyOf Go.Proofs.Try.f49))[0]?.getD .skip) (b := 0) 
    a (fun i (_ : Unit) x => if some x = b[i]? then .inl () else .inr ()) () (ex := fun _ => .ret)
    (fun i _ => Live [(0, zSps a), (1, zSps b), (5, zI i)] [] 0) (fun _ => Live [] [] 0) (fun _ => Live [(4, zB false)] [] 0)
    (fun i s st hi h => by
      obtain ⟨tm, H, b⟩ := st
      simp only [bodyOf, Go.Proofs.Try.f49, Option.getD_some, loopsOf, rangesOf, List.nil_append, List.append_nil, List.cons_append, List.getElem?_cons_zero, List.getElem?_cons_succ]
      simp only [go_sem] at h
      obtain ⟨h0, h1', h5, rfl, rfl⟩ := h
      have hib : i < b.length := by omega
      by_cases hp : a[i] = b[i]
      · simp [go_sem, h0, h1', h5, hi, hib, hp, show i < 1000000000 by omega]
      · simp [go_sem, h0, h1', h5, hi, hib, hp])
    (fun s st h => by
      obtain ⟨tm, H, b⟩ := st
      simp only [bodyOf, Go.Proofs.Try.f49, Option.getD_some, loopsOf, rangesOf, List.nil_append, List.append_nil, List.cons_append, List.getElem?_cons_zero, List.getElem?_cons_succ]
      simp only [go_sem] at h
      obtain ⟨h0, h1', h5, rfl, rfl⟩ := h
      simp [go_sem, h0, h5])
    (fun _ h => by cases h)
  simp only [bodyOf, Go.Proofs.Try.f49, Option.getD_some, loopsOf, rangesOf, List.nil_append, List.append_nil, List.cons_append, List.getElem?_cons_zero, List.getElem?_cons_succ] at hR
  rw [foldE_eq b a 0 (by omega), List.drop_zero] at hR
  by_cases hab : a = b
  · simp [go_sem, hab] at hR
    simp [go_sem, hab, hR]
  · simp [go_sem, hab] at hR
    simp [go_sem, hab, h1, hR]
theorem f71_same (s : Site) (hl : s.lin.length < 1000000000) (Y : List YF) : callS ev fs 71 [.agg (siteRow s), .agg (siteRow s)] [] Y = some (.ret (zB true), []) := by
  refine callS_by f71_eq rfl ?_
  simp only [bodyOf, Go.Proofs.Try.f71, Option.getD_some]
  have h := f49_spec s.lin s.lin hl []
  simp only [go_sem, decide_true] at h
  simp [go_sem, h]
theorem f70_same (l : List Site) (hl : siteLen l) (Y : List YF) : callS ev fs 70 [zSites l, zSites l, .fn 71 []] [] Y = some (.ret (zB true), []) := by
  refine callS_by f70_eq rfl ?_
  simp only [bodyOf, Go.Proofs.Try.f70, Option.getD_some]
  have hln := hl.1
  obtain ⟨R, hR⟩ := fold_loop (E := ev) (C := callS ev fs) (Y := Y) (w := w70) (a := (loopsOf (bodyOf Go.Proofs.Try.f70))[0]?.getD .skip) (b := 0) 
    l (fun _ (_ : Unit) _ => .inl ()) () (ex := fun (r : Empty) => nomatch r)
    (fun i _ st => LiveT [(1, zSites l), (2, .fn 71 []), (15, zSites l), (16, zI l.length), (17, zI i)] 0 st) (fun _ => LiveT [] 0) (fun r => nomatch r)
    (fun i s st hi h => by
      obtain ⟨tm, H, b⟩ := st
      simp only [bodyOf, Go.Proofs.Try.f70, Option.getD_some, loopsOf, rangesOf, List.nil_append, List.append_nil, List.cons_append, List.getElem?_cons_zero, List.getElem?_cons_succ]
      simp only [go_sem] at h
      obtain ⟨h1, h2, h15, h16, h17, rfl⟩ := h
      have hc := f71_same l[i] (hl.2 _ (List.getElem_mem hi)) []
      simp only [go_sem] at hc
      simp [go_sem, h1, h2, h15, h16, h17, hi, hc, show i < 1000000000 by omega])
    (fun s st h => by
      obtain ⟨tm, H, b⟩ := st
      simp only [bodyOf, Go.Proofs.Try.f70, Option.getD_some, loopsOf, rangesOf, List.nil_append, List.append_nil, List.cons_append, List.getElem?_cons_zero, List.getElem?_cons_succ]
      simp only [go_sem] at h
      obtain ⟨h1, h2, h15, h16, h17, rfl⟩ := h
      simp [go_sem, h1, h2, h15, h16, h17])
    (fun r => nomatch r)
  simp only [bodyOf, Go.Proofs.Try.f70, Option.getD_some, loopsOf, rangesOf, List.nil_append, List.append_nil, List.cons_append, List.getElem?_cons_zero, List.getElem?_cons_succ] at hR
  rw [foldE_fold (fun _ _ => ())] at hR
  simp [go_sem] at hR
  simp [go_sem, hR]
theorem f70_nil' : callN ev fs 10 70 [.sc (.slice none 0 0), .sc (.slice none 0 0), .fn 71 []] [] [] = some (.ret (zB true), []) := by kernel_rfl
theorem f70_nil : callS ev fs 70 [.sc (.slice none 0 0), .sc (.slice none 0 0), .fn 71 []] [] [] = some (.ret (zB true), []) := callS_iff.2 ⟨10, f70_nil'⟩
theorem f50_nil' : callN ev fs 10 50 [.sc (.slice none 0 0), .sc (.slice none 0 0)] [] [] = some (.ret (zB true), []) := by kernel_rfl
theorem f50_nil : callS ev fs 50 [.sc (.slice none 0 0), .sc (.slice none 0 0)] [] [] = some (.ret (zB true), []) := callS_iff.2 ⟨10, f50_nil'⟩
theorem f69_nil' : callN ev fs 10 69 [.sc (.slice none 0 0), .sc (.slice none 0 0)] [] [] = some (.ret (zB true), []) := by kernel_rfl
theorem f69_nil : callS ev fs 69 [.sc (.slice none 0 0), .sc (.slice none 0 0)] [] [] = some (.ret (zB true), []) := callS_iff.2 ⟨10, f69_nil'⟩

theorem f69_same (p : List (Nat × Nat)) (hl : p.length < 100000000) (Y : List YF) : callS ev fs 69 [zPairs p, zPairs p] [] Y = some (.ret (zB true), []) := by
  refine callS_by f69_eq rfl ?_
  simp only [bodyOf, Go.Proofs.Try.f69, Option.getD_some]
  obtain ⟨R, hR⟩ := fold_loop (E := ev) (C := callS ev fs) (Y := Y) (w := {}) (a := (loopsOf (bodyOf Go.Proofs.Try.f69))[0]?.getD .skip) (b := 0) 
    p (fun _ (_ : Unit) _ => .inl ()) () (ex := fun (r : Empty) => nomatch r)
    (fun i _ => Live [(0, zPairs p), (1, zPairs p), (5, zI i)] [] 0) (fun _ => Live [] [] 0) (fun r => nomatch r)
    (fun i s st hi h => by
      obtain ⟨tm, H, b⟩ := st
      simp only [bodyOf, Go.Proofs.Try.f69, Option.getD_some, loopsOf, rangesOf, List.nil_append, List.append_nil, List.cons_append, List.getElem?_cons_zero, List.getElem?_cons_succ]
      simp only [go_sem] at h
      obtain ⟨h0, h1, h5, rfl, rfl⟩ := h
      simp [go_sem, h0, h1, h5, hi, loopC_eq, show i < 1000000000 by omega, show IntKind.wrap .i64 1 = 1 by decide, show IntKind.wrap .i64 2 = 2 by decide])
    (fun s st h => by
      obtain ⟨tm, H, b⟩ := st
      simp only [bodyOf, Go.Proofs.Try.f69, Option.getD_some, loopsOf, rangesOf, List.nil_append, List.append_nil, List.cons_append, List.getElem?_cons_zero, List.getElem?_cons_succ]
      simp only [go_sem] at h
      obtain ⟨h0, h1, h5, rfl, rfl⟩ := h
      simp [go_sem, h0, h1, h5])
    (fun r => nomatch r)
  simp only [bodyOf, Go.Proofs.Try.f69, Option.getD_some, loopsOf, rangesOf, List.nil_append, List.append_nil, List.cons_append, List.getElem?_cons_zero, List.getElem?_cons_succ] at hR
  rw [foldE_fold (fun _ _ => ())] at hR
  simp [go_sem] at hR
  simp [go_sem, hR]

theorem mRes_ok {l : List Site} {w : Int} {r : List Site × List Int} (h : mRes l w = .inl r) : mSites l = 0 ∧ ∃ n : Nat, ∃ hn : n < l.length, w = n ∧ (l[n].role = 1 ∨ l[n].role = 2 ∨ l[n].role = 3) ∧ r = resOut l[n] n l := by
  unfold mRes at h
  split at h
  · rename_i h0
    split at h
    · rename_i hw
      split at h
      · rename_i b hb
        split at h
        · rename_i hr
          obtain ⟨hn, rfl⟩ := List.getElem?_eq_some_iff.1 hb
          refine ⟨h0, w.toNat, hn, by omega, hr, ?_⟩
          cases h
          rw [show ((w.toNat : Nat) : Int) = w by omega]
        · cases h
      · cases h
    · cases h
  · cases h
theorem res_lin (best : Site) (w : Int) (m : Nat) : ∀ (l : List Site) (i : Nat) (r r' : List Site × List Int), (∀ s ∈ l, s.lin.length < m) → (∀ s ∈ r.1, s.lin.length < m) → foldE (resF best w) i r l = .inl r' → ∀ s ∈ r'.1, s.lin.length < m
  | [], i, r, r', _, hr, h => by simp only [foldE, Sum.inl.injEq] at h; subst h; exact hr
  | x :: l, i, r, r', hl, hr, h => by
    simp only [foldE, resF] at h
    refine res_lin best w m l _ _ _ (fun s hs => hl s (by simp [hs])) ?_ h
    intro s hs
    have hx := hl x (by simp)
    split at hs <;> simp only [List.mem_append, List.mem_singleton] at hs <;> rcases hs with hs | rfl
    · exact hr s hs
    · exact hx
    · exact hr s hs
    · exact hx

theorem f14_spec (l : List Site) (w : Int) (Y : List YF) : callS ev fs 14 [zSites l, zI w] [] Y = some (.ret (zB true), []) := by
  refine callS_by f14_eq rfl ?_
  simp only [bodyOf, Go.Proofs.Try.f14, Option.getD_some]
  have hw := f61_call
  have h64 := f64_spec l []
  simp only [go_sem] at hw h64
  cases c0 : fewS l
  · simp [go_sem, h64, c0, hw]
  obtain ⟨hl8, hl20⟩ := few_sites c0
  have hl : siteLen l := ⟨by omega, fun s hs => by have := hl20 s hs; omega⟩
  have h65 := f65_spec l hl []
  have h66 := f66_spec l hl []
  have h67 := f67_spec l w hl []
  have h68 := f68_spec l w hl []
  have key : ∃ p x y z e, zDiv l = .tup [p, zI e] ∧ zRes (mRes l w) = .tup [x, y, zI z] ∧ AV.pure p = true ∧ AV.pure x = true ∧ AV.pure y = true ∧ callS ev fs 69 [p, p] [] [] = some (.ret (zB true), []) ∧
      callS ev fs 70 [x, x, .fn 71 []] [] [] = some (.ret (zB true), []) ∧ callS ev fs 50 [y, y] [] [] = some (.ret (zB true), []) := by
    have hd : ∃ p e, zDiv l = .tup [p, zI e] ∧ AV.pure p = true ∧ callS ev fs 69 [p, p] [] [] = some (.ret (zB true), []) := by
      unfold zDiv
      by_cases h : mSites l = 0
      · rw [if_pos h]
        have h1 := div_len l l 0 [] _ (div_fold l)
        have h2 : l.length * l.length ≤ 8 * 8 := Nat.mul_le_mul hl8 hl8
        exact ⟨_, _, rfl, rfl, f69_same _ (by simp at h1; omega) []⟩
      · rw [if_neg h]
        exact ⟨_, _, rfl, rfl, f69_nil⟩
    obtain ⟨p, e, d1, d2, d3⟩ := hd
    cases hr : mRes l w with
    | inr z => exact ⟨p, _, _, z, e, d1, rfl, d2, rfl, rfl, d3, f70_nil, f50_nil⟩
    | inl r =>
      obtain ⟨h0, n, hn, rfl, _, rfl⟩ := mRes_ok hr
      obtain ⟨e1, e2⟩ := res_len l[n] n l 0 ([], []) _ (resOut_fold l[n] n l)
      have e3 := res_lin l[n] n 1000000000 l 0 ([], []) _ hl.2 (by simp) (resOut_fold l[n] n l)
      simp only [List.length_nil, Nat.zero_add] at e1 e2
      have h50 := f50_spec (resOut l[n] n l).2 (resOut l[n] n l).2 (by omega) []
      simp only [decide_true] at h50
      exact ⟨p, _, _, 0, e, d1, rfl, d2, rfl, rfl, d3, f70_same _ ⟨by omega, e3⟩ [], h50⟩
  obtain ⟨p, x, y, z, e, k1, k2, k3, k4, k5, k6, k7, k8⟩ := key
  rw [k1] at h65 h66
  rw [k2] at h67 h68
  simp only [go_sem] at h65 h66 h67 h68 k6 k7 k8
  simp [go_sem, h64, c0, hw, h65, h66, h67, h68, k3, k4, k5, k6, k7, k8]
end Go.Proofs.Ytlphdiccffnckaa

/- Layer 54: what stands behind Resolve. -/
namespace Go.Proofs.Ytlphdiccffnckaa
open Go Go.Abs
theorem f16_eq : fs 16 = some (mkFn w16 Go.Proofs.Try.f16 (bodyOf Go.Proofs.Try.f16)) := by kernel_rfl
theorem f77_eq : fs 77 = some (mkFn {} Go.Proofs.Try.f77 (bodyOf Go.Proofs.Try.f77)) := by kernel_rfl
theorem f79_eq : fs 79 = some (mkFn {} Go.Proofs.Try.f79 (bodyOf Go.Proofs.Try.f79)) := by kernel_rfl
theorem f169_eq : fs 169 = some (mkFn {} Go.Proofs.Try.f169 (bodyOf Go.Proofs.Try.f169)) := by kernel_rfl

theorem f169_spec (xs : List Int) (n : Int) (hl : xs.length < 1000000000) (Y : List YF) :
    callS ev fs 169 [zInts xs, zI n] [] Y = some (.ret (zI (match xs.findIdx? (fun x => decide (n = x)) with | some j => (j : Int) | none => -1)), []) := by
  refine callS_by f169_eq rfl ?_
  simp only [bodyOf, Go.Proofs.Try.f169, Option.getD_some]
  obtain ⟨R, hR⟩ := fold_loop (E := ev) (C := callS ev fs) (Y := Y) (w := {}) (a := (loopsOf (bodyOf Go.Proofs.Try.f169))[0]?.getD .skip) (b := 0) 
    xs (fun i (_ : Unit) x => if (fun x => decide (n = x)) x = true then .inr i else .inl ()) () (ex := fun _ => .ret)
    (fun i _ => Live [(0, zInts xs), (1, zI n), (7, zI xs.length), (8, zI i)] [] 0) (fun _ => Live [] [] 0) (fun j => Live [(4, zI j)] [] 0)
    (fun i s st hi h => by
      obtain ⟨tm, H, b⟩ := st
      simp only [bodyOf, Go.Proofs.Try.f169, Option.getD_some, loopsOf, rangesOf, List.nil_append, List.append_nil, List.cons_append, List.getElem?_cons_zero, List.getElem?_cons_succ]
      simp only [go_sem] at h
      obtain ⟨h0, h1, h7, h8, rfl, rfl⟩ := h
      by_cases hp : n = xs[i]
      · simp [go_sem, h0, h1, h7, h8, hi, hp, show i < 1000000000 by omega]
      · simp [go_sem, h0, h1, h7, h8, hi, hp, show i < 1000000000 by omega])
    (fun s st h => by
      obtain ⟨tm, H, b⟩ := st
      simp only [bodyOf, Go.Proofs.Try.f169, Option.getD_some, loopsOf, rangesOf, List.nil_append, List.append_nil, List.cons_append, List.getElem?_cons_zero, List.getElem?_cons_succ]
      simp only [go_sem] at h
      obtain ⟨h0, h1, h7, h8, rfl, rfl⟩ := h
      simp [go_sem, h7, h8])
    (fun _ h => by cases h)
  simp only [bodyOf, Go.Proofs.Try.f169, Option.getD_some, loopsOf, rangesOf, List.nil_append, List.append_nil, List.cons_append, List.getElem?_cons_zero, List.getElem?_cons_succ] at hR
  rw [foldE_idx (fun x => decide (n = x))] at hR
  cases hf : xs.findIdx? (fun x => decide (n = x)) <;> simp [go_sem, hf] at hR <;> simp [go_sem, hR]
theorem f77_spec (xs : List Int) (n : Int) (hl : xs.length < 1000000000) (Y : List YF) : callS ev fs 77 [zInts xs, zI n] [] Y = some (.ret (zB (decide (n ∈ xs))), []) := by
  refine callS_by f77_eq rfl ?_
  simp only [bodyOf, Go.Proofs.Try.f77, Option.getD_some]
  have h := f169_spec xs n hl []
  simp only [go_sem] at h
  have hm : decide (n ∈ xs) = (xs.findIdx? (fun x => decide (n = x))).isSome := by
    rw [List.findIdx?_isSome, Bool.eq_iff_iff]
    simp
  rw [hm]
  cases hf : xs.findIdx? (fun x => decide (n = x)) <;> simp [go_sem, hf] at h <;> simp [go_sem, h]
theorem f79_spec (fen : List Int) (l : List Site) (n : Int) (hn : n ∈ fen) (hl : fen.length < 1000000000) (Y : List YF) : callS ev fs 79 [zI n, .fp [zInts fen], .fp [zSites l]] [] Y = some (.ret (zB false), []) := by
  refine callS_by f79_eq rfl ?_
  simp only [bodyOf, Go.Proofs.Try.f79, Option.getD_some]
  have h := f77_spec fen n hl []
  rw [decide_eq_true hn] at h
  simp only [go_sem] at h
  simp [go_sem, h]

def turn (best : Site) (w : Int) (i : Nat) (s : Site) : Site := if loses best w i s = true then fenced best s else s
theorem res_get (best : Site) (w : Int) : ∀ (l : List Site) (i : Nat) (r r' : List Site × List Int), foldE (resF best w) i r l = .inl r' →
    (∃ m, r'.1 = r.1 ++ m ∧ m.length = l.length ∧ ∀ k (hk : k < l.length), m[k]? = some (turn best w (i + k) l[k])) ∧
    (∀ n : Int, n ∈ r'.2 ↔ n ∈ r.2 ∨ ∃ k, ∃ hk : k < l.length, n = ((i + k : Nat) : Int) ∧ loses best w (i + k) l[k] = true)
  | [], i, r, r', h => by
    simp only [foldE, Sum.inl.injEq] at h
    subst h
    exact ⟨⟨[], by simp, rfl, fun k hk => by simp at hk⟩, fun n => by simp⟩
  | s :: l, i, r, r', h => by
    simp only [foldE, resF] at h
    obtain ⟨⟨m, h1, h2, h3⟩, h4⟩ := res_get best w l _ _ _ h
    refine ⟨⟨turn best w i s :: m, ?_, by simp [h2], fun k hk => ?_⟩, fun n => ?_⟩
    · rw [h1]
      unfold turn
      split <;> simp
    · cases k with
      | zero => rfl
      | succ k =>
        simp only [List.getElem?_cons_succ, List.getElem_cons_succ]
        rw [h3 k (by simpa using hk), show i + 1 + k = i + (k + 1) by omega]
    · rw [h4]
      have hex : (∃ k, ∃ hk : k < (s :: l).length, n = ((i + k : Nat) : Int) ∧ loses best w (i + k) (s :: l)[k] = true) ↔ (n = i ∧ loses best w i s = true) ∨ ∃ k, ∃ hk : k < l.length, n = ((i + 1 + k : Nat) : Int) ∧ loses best w (i + 1 + k) l[k] = true := by
        constructor
        · rintro ⟨k, hk, e, hh⟩
          cases k with
          | zero => exact .inl ⟨by simpa using e, by simpa using hh⟩
          | succ k =>
            refine .inr ⟨k, by simpa using hk, by rw [e]; congr 1; omega, ?_⟩
            rw [show i + 1 + k = i + (k + 1) by omega]
            simpa using hh
        · rintro (⟨e, hh⟩ | ⟨k, hk, e, hh⟩)
          · exact ⟨0, by simp, by simpa using e, by simpa using hh⟩
          · refine ⟨k + 1, by simpa using hk, by rw [e]; congr 1; omega, ?_⟩
            rw [show i + (k + 1) = i + 1 + k by omega]
            simpa using hh
      rw [hex]
      split
      · rename_i hlo
        simp only [List.mem_append, List.mem_singleton, hlo, and_true, or_assoc]
      · rename_i hlo
        simp only [hlo, and_false, false_or, Bool.false_eq_true]

theorem resOut_get (best : Site) (w : Int) (l : List Site) : (resOut best w l).1.length = l.length ∧ (∀ k (hk : k < l.length), (resOut best w l).1[k]? = some (turn best w k l[k])) ∧
    ∀ n : Int, n ∈ (resOut best w l).2 ↔ ∃ k, ∃ hk : k < l.length, n = (k : Int) ∧ loses best w k l[k] = true := by
  obtain ⟨⟨m, h1, h2, h3⟩, h4⟩ := res_get best w l 0 ([], []) _ (resOut_fold best w l)
  simp only [List.nil_append] at h1
  refine ⟨by rw [h1]; exact h2, fun k hk => by rw [h1, h3 k hk, Nat.zero_add], fun n => ?_⟩
  rw [h4]
  simp only [List.not_mem_nil, false_or, Nat.zero_add]

theorem firstErr_zero : ∀ {l : List Site}, firstErr l = 0 ↔ ∀ s ∈ l, mSite s = 0
  | [] => by simp [firstErr]
  | s :: l => by
    simp only [firstErr, List.mem_cons, forall_eq_or_imp]
    by_cases h : mSite s = 0
    · simp only [h, if_true, true_and]
      exact firstErr_zero
    · simp [h]
theorem mSites_zero {l : List Site} : mSites l = 0 ↔ l.length ≤ 4 ∧ ∀ s ∈ l, mSite s = 0 := by
  unfold mSites
  by_cases h : 4 < l.length
  · rw [if_pos h]
    exact ⟨fun h => (by cases h), fun h' => absurd h'.1 (by omega)⟩
  · rw [if_neg h, firstErr_zero]
    exact ⟨fun h' => ⟨by omega, h'⟩, fun h' => h'.2⟩
theorem mSite_zero {s : Site} (h : mSite s = 0) : (0 ≤ s.num ∧ s.num ≤ 3) ∧ (0 ≤ s.role ∧ s.role ≤ 5) ∧ (0 ≤ s.ep ∧ s.ep ≤ 1073741824) ∧ (0 ≤ s.app ∧ s.app ≤ 1073741824) ∧ ¬ (s.ep = 0 ∧ s.role ≠ 0) ∧ spOk sp0 s.lin = true ∧ ¬ s.ep < endE s.lin ∧ endT s.lin = s.app := by
  unfold mSite at h
  by_cases c1 : ¬ (0 ≤ s.num ∧ s.num ≤ 3)
  · rw [if_pos c1] at h; cases h
  rw [if_neg c1] at h
  by_cases c2 : ¬ (0 ≤ s.role ∧ s.role ≤ 5)
  · rw [if_pos c2] at h; cases h
  rw [if_neg c2] at h
  by_cases c3 : ¬ (0 ≤ s.ep ∧ s.ep ≤ 1073741824)
  · rw [if_pos c3] at h; cases h
  rw [if_neg c3] at h
  by_cases c4 : ¬ (0 ≤ s.app ∧ s.app ≤ 1073741824)
  · rw [if_pos c4] at h; cases h
  rw [if_neg c4] at h
  by_cases c5 : s.ep = 0 ∧ s.role ≠ 0
  · rw [if_pos c5] at h; cases h
  rw [if_neg c5] at h
  by_cases c6 : spOk sp0 s.lin = false
  · rw [if_pos c6] at h; cases h
  rw [if_neg c6] at h
  by_cases c7 : s.ep < endE s.lin
  · rw [if_pos c7] at h; cases h
  rw [if_neg c7] at h
  by_cases c8 : endT s.lin ≠ s.app
  · rw [if_pos c8] at h; cases h
  exact ⟨Decidable.not_not.1 c1, Decidable.not_not.1 c2, Decidable.not_not.1 c3, Decidable.not_not.1 c4, c5, by simpa using c6, c7, Decidable.not_not.1 c8⟩
theorem fenced_ok {best s : Site} {w : Int} {i : Nat} (hb : mSite best = 0) (hr : best.role = 1 ∨ best.role = 2 ∨ best.role = 3) (hs : mSite s = 0) (hl : loses best w i s = true) : mSite (fenced best s) = 0 := by
  obtain ⟨b1, b2, b3, b4, b5, b6, b7, b8⟩ := mSite_zero hb
  obtain ⟨a1, a2, a3, a4, a5, a6, a7, a8⟩ := mSite_zero hs
  have hbe : best.ep ≠ 0 := fun h => b5 ⟨h, by omega⟩
  have hm : maxI s.ep best.ep = s.ep ∧ best.ep ≤ s.ep ∨ maxI s.ep best.ep = best.ep ∧ s.ep < best.ep := by
    unfold maxI
    split
    · exact .inr ⟨rfl, by omega⟩
    · exact .inl ⟨rfl, by omega⟩
  unfold mSite fenced
  simp only
  rw [if_neg (fun h => h a1), if_neg (fun h => h (by omega)), if_neg (fun h => h (by omega)), if_neg (fun h => h a4), if_neg (by omega), if_neg (by rw [a6]; simp), if_neg (by omega), if_neg (fun h => h a8)]
  simp [recv]
theorem fenced_twice (best s : Site) : fenced best (fenced best s) = fenced best s := by
  unfold fenced
  simp only [Site.mk.injEq, true_and, and_true]
  unfold maxI
  by_cases h : best.ep > s.ep
  · simp only [h, if_true]
    split <;> rfl
  · simp only [h, if_false]
end Go.Proofs.Ytlphdiccffnckaa

/- Layer 54: the law SplitbrainSettles. -/
namespace Go.Proofs.Ytlphdiccffnckaa
open Go Go.Abs

theorem apart_fork {s best : Site} (hr : best.role = 1 ∨ best.role = 2 ∨ best.role = 3) (h4 : s.role ≠ 4) (h : mApart s best = false) : (fork s.lin best.lin).2 = false := by
  unfold mApart at h
  rw [if_neg (by omega)] at h
  simp only [Bool.or_eq_false_iff] at h
  exact h.1

/-- What is known of what Resolve returns. -/
structure Settled (l out : List Site) (fen : List Int) (n : Nat) (best : Site) : Prop where
  len : out.length = l.length
  win : out[n]? = some best
  ok : ∀ s ∈ out, mSite s = 0
  lost : ∀ k (h : k < out.length), (k : Int) ∈ fen → out[k].role = 5 ∧ k ≠ n
  kept : ∀ k (h : k < out.length) (h' : k < l.length), ¬ (k : Int) ∈ fen → out[k] = l[k] ∧ (k ≠ n → out[k].role ≠ 1 ∧ (out[k].role ≠ 4 → (fork out[k].lin best.lin).2 = false))
  again : (resOut best n out).1 = out
  sub : ∀ m ∈ (resOut best n out).2, m ∈ fen

theorem settled (l : List Site) (n : Nat) (hn : n < l.length) (h0 : mSites l = 0) (hr : l[n].role = 1 ∨ l[n].role = 2 ∨ l[n].role = 3) : Settled l (resOut l[n] n l).1 (resOut l[n] n l).2 n l[n] := by
  obtain ⟨g1, g2, g3⟩ := resOut_get l[n] n l
  obtain ⟨z1, z2⟩ := mSites_zero.1 h0
  have hb := z2 _ (List.getElem_mem hn)
  generalize hbest : l[n] = best at *
  generalize hro : resOut best n l = ro at *
  obtain ⟨out, fen⟩ := ro
  simp only at g1 g2 g3 ⊢
  have hself : loses best n n best = false := by simp [loses]
  have hget : ∀ k (h : k < out.length) (h' : k < l.length), out[k] = turn best n k l[k] := fun k h h' => by
    have := g2 k h'
    rw [List.getElem?_eq_getElem h] at this
    exact Option.some.inj this
  have hmem : ∀ k (h' : k < l.length), (k : Int) ∈ fen ↔ loses best n k l[k] = true := fun k h' => by
    rw [g3]
    constructor
    · rintro ⟨k', hk', e, hh⟩
      have : k' = k := by omega
      subst this
      exact hh
    · intro hh
      exact ⟨k, h', rfl, hh⟩
  have hwin : out[n]? = some best := by rw [g2 n hn, hbest]; simp [turn, hself]
  have hok : ∀ s ∈ out, mSite s = 0 := fun s hs => by
    obtain ⟨k, hk, rfl⟩ := List.getElem_of_mem hs
    have hk' : k < l.length := by omega
    rw [hget k hk hk']
    unfold turn
    split
    · rename_i hlo
      exact fenced_ok hb hr (z2 _ (List.getElem_mem hk')) hlo
    · exact z2 _ (List.getElem_mem hk')
  have hturn : ∀ k (h : k < out.length), turn best n k out[k] = out[k] ∧ (loses best n k out[k] = true → (k : Int) ∈ fen) := fun k h => by
    have h' : k < l.length := by omega
    rw [hget k h h', hmem k h']
    by_cases hlo : loses best n k l[k] = true
    · have ht : turn best n k l[k] = fenced best l[k] := by simp [turn, hlo]
      rw [ht]
      refine ⟨?_, fun _ => hlo⟩
      unfold turn
      split
      · exact fenced_twice best l[k]
      · rfl
    · have ht : turn best n k l[k] = l[k] := by simp [turn, hlo]
      rw [ht, ht]
      exact ⟨rfl, fun h => h⟩
  obtain ⟨k1, k2, k3⟩ := resOut_get best n out
  refine ⟨g1, hwin, hok, fun k h hf => ?_, fun k h h' hf => ?_, ?_, fun m hm => ?_⟩
  · have h' : k < l.length := by omega
    have hlo := (hmem k h').1 hf
    rw [hget k h h']
    refine ⟨by simp [turn, hlo, fenced], fun e => ?_⟩
    subst e
    simp [loses] at hlo
  · have hlo : loses best n k l[k] = false := by
      cases hc : loses best n k l[k] with
      | false => rfl
      | true => exact absurd ((hmem k h').2 hc) hf
    have he : out[k] = l[k] := by rw [hget k h h']; simp [turn, hlo]
    refine ⟨he, fun hne => ?_⟩
    rw [he]
    simp only [loses, Bool.and_eq_false_iff, Bool.or_eq_false_iff, decide_eq_false_iff_not] at hlo
    rcases hlo with hlo | ⟨q1, q2⟩
    · exact absurd hlo (fun hh => hh (by omega))
    · exact ⟨q1, fun h4 => apart_fork hr h4 q2⟩
  · refine List.ext_getElem k1 fun k p1 p2 => ?_
    have := k2 k p2
    rw [List.getElem?_eq_getElem p1, (hturn k p2).1] at this
    exact Option.some.inj this
  · obtain ⟨k, hk, rfl, hlo⟩ := (k3 m).1 hm
    exact (hturn k hk).2 hlo

theorem f16_loop (l out : List Site) (fen : List Int) (n : Nat) (best : Site) (hS : Settled l out fen n best) (hl : siteLen l) (ho : siteLen out) (hbl : best.lin.length < 1000000000) (hf : fen.length < 1000000000) (hn : n < l.length) (Y : List YF) :
    ∃ R : St → St, ∀ st, Live [(1, zI n), (2, .bp 0 0), (5, zSites out), (6, .bp 1 0), (55, zSites out), (56, zI out.length), (57, zI 0)] [.box [zSites l], .box [zInts fen]] 0 st →
      loopC ev (callS ev fs) Y w16 ((loopsOf (bodyOf Go.Proofs.Try.f16))[0]?.getD .skip) st = some (.exit 0, R st) ∧ Live [(1, zI n), (2, .bp 0 0), (5, zSites out), (6, .bp 1 0)] [.box [zSites l], .box [zInts fen]] 0 (R st) := by
  have hlen := hS.len
  have hln := hl.1
  obtain ⟨R, hR⟩ := fold_loop (E := ev) (C := callS ev fs) (Y := Y) (w := w16) (a := (loopsOf (bodyOf Go.Proofs.Try.f16))[0]?.getD .skip) (b := 0) 
    out (fun _ (_ : Unit) _ => .inl ()) () (ex := fun (r : Empty) => nomatch r)
    (fun i _ st => (∃ B, st.H = .box [zSites l] :: .box [zInts fen] :: B) ∧ LiveT [(1, zI n), (2, .bp 0 0), (5, zSites out), (6, .bp 1 0), (55, zSites out), (56, zI out.length), (57, zI i)] 0 st)
    (fun _ => Live [(1, zI n), (2, .bp 0 0), (5, zSites out), (6, .bp 1 0)] [.box [zSites l], .box [zInts fen]] 0) (fun r => nomatch r)
    (fun i s st hi h => by
      obtain ⟨⟨B, hH⟩, h⟩ := h
      have hil : i < l.length := by omega
      have hno : n < out.length := by omega
      have hls := hl.2 _ (List.getElem_mem hil)
      have hos := ho.2 _ (List.getElem_mem hi)
      have h77 := f77_spec fen i hf []
      have h78 := f78_spec out[i] hos []
      rw [hS.ok _ (List.getElem_mem hi)] at h78
      have hwin : out[n] = best := by
        have := hS.win
        rw [List.getElem?_eq_getElem hno] at this
        exact Option.some.inj this
      have h62 := f62_spec out[i].lin best.lin hos hbl []
      rw [← hwin] at h62
      obtain ⟨tm, H, b⟩ := st
      simp only [bodyOf, Go.Proofs.Try.f16, Option.getD_some, loopsOf, rangesOf, List.nil_append, List.append_nil, List.cons_append, List.getElem?_cons_zero, List.getElem?_cons_succ]
      simp only [go_sem] at h
      obtain ⟨g1, g2, g5, g6, g55, g56, g57, rfl⟩ := h
      simp only at hH
      subst hH
      by_cases c : (i : Int) ∈ fen
      · obtain ⟨r5, hne⟩ := hS.lost i hi c
        rw [decide_eq_true c] at h77
        simp only [go_sem] at h77 h78 h62
        simp only [r5] at h78
        simp [go_sem, g1, g2, g5, g6, g55, g56, g57, hi, hil, hno, h77, h78, h62, r5, hne, Int.ofNat_inj, show i < 1000000000 by omega]
      · obtain ⟨he, hk⟩ := hS.kept i hi hil c
        rw [decide_eq_false c] at h77
        have h71 := f71_same out[i] hos []
        by_cases e : i = n
        · subst e
          simp only [go_sem] at h77 h78 h62 h71
          simp [go_sem, g1, g2, g5, g6, g55, g56, g57, hi, hil, hno, h77, h78, h62, h71, ← he, show i < 1000000000 by omega]
        · obtain ⟨k1, k2⟩ := hk e
          by_cases c4 : out[i].role = 4
          · simp only [go_sem] at h77 h78 h62 h71
            simp only [c4] at h78 h71
            simp [go_sem, g1, g2, g5, g6, g55, g56, g57, hi, hil, hno, h77, h78, h62, h71, ← he, c4, e, Int.ofNat_inj, show i < 1000000000 by omega]
          · have k3 := k2 c4
            rw [← hwin] at k3
            rw [k3] at h62
            simp only [go_sem] at h77 h78 h62 h71
            simp [go_sem, g1, g2, g5, g6, g55, g56, g57, hi, hil, hno, h77, h78, h62, h71, ← he, c4, k1, e, Int.ofNat_inj, show i < 1000000000 by omega])
    (fun s st h => by
      obtain ⟨⟨B, hH⟩, h⟩ := h
      obtain ⟨tm, H, b⟩ := st
      simp only [bodyOf, Go.Proofs.Try.f16, Option.getD_some, loopsOf, rangesOf, List.nil_append, List.append_nil, List.cons_append, List.getElem?_cons_zero, List.getElem?_cons_succ]
      simp only [go_sem] at h
      obtain ⟨g1, g2, g5, g6, g55, g56, g57, rfl⟩ := h
      simp only at hH
      subst hH
      simp [go_sem, g1, g2, g5, g6, g55, g56, g57])
    (fun r => nomatch r)
  refine ⟨R, fun st h => ?_⟩
  rw [foldE_fold (fun _ _ => ())] at hR
  simp only [go_sem] at h
  obtain ⟨g1, g2, g5, g6, g55, g56, g57, hH, hbb⟩ := h
  exact hR st ⟨⟨[], hH⟩, by simp only [go_sem]; exact ⟨g1, g2, g5, g6, g55, g56, g57, hbb⟩⟩
end Go.Proofs.Ytlphdiccffnckaa

/- Layer 54: the law SplitbrainSettles. -/
namespace Go.Proofs.Ytlphdiccffnckaa
open Go Go.Abs

theorem f16_spec (l : List Site) (w : Int) (Y : List YF) : callS ev fs 16 [zSites l, zI w] [] Y = some (.ret (zB true), []) := by
  refine callS_by f16_eq rfl ?_
  simp only [bodyOf, Go.Proofs.Try.f16, Option.getD_some]
  have hw := f61_call
  have h64 := f64_spec l []
  simp only [go_sem] at hw h64
  cases c0 : fewS l
  · simp [go_sem, h64, c0, hw]
  obtain ⟨hl8, hl20⟩ := few_sites c0
  have hl : siteLen l := ⟨by omega, fun s hs => by have := hl20 s hs; omega⟩
  have h67 := f67_spec l w hl []
  cases hr : mRes l w with
  | inr e =>
    rw [hr] at h67
    have he : ¬ e = 0 := by
      intro h
      subst h
      unfold mRes at hr
      by_cases h0 : mSites l = 0
      · rw [if_pos h0] at hr
        split at hr
        · split at hr
          · split at hr <;> cases hr
          · cases hr
        · cases hr
      · rw [if_neg h0] at hr
        exact h0 (Sum.inr.inj hr)
    simp only [zRes, go_sem] at h67
    simp [go_sem, h64, c0, hw, h67, he]
  | inl r =>
    rw [hr] at h67
    obtain ⟨h0, n, hn, rfl, hrole, rfl⟩ := mRes_ok hr
    obtain ⟨e1, e2⟩ := res_len l[n] n l 0 ([], []) _ (resOut_fold l[n] n l)
    have e3 := res_lin l[n] n 1000000000 l 0 ([], []) _ hl.2 (by simp) (resOut_fold l[n] n l)
    have hS := settled l n hn h0 hrole
    have hbl := hl.2 _ (List.getElem_mem hn)
    simp only [List.length_nil, Nat.zero_add] at e1 e2
    generalize hbest : l[n] = best at *
    generalize hro : resOut best n l = ro at *
    obtain ⟨out, fen⟩ := ro
    simp only at e1 e2 e3 hS
    have ho : siteLen out := ⟨by omega, e3⟩
    have h67b := f67_spec out n ho []
    have hno : n < out.length := by omega
    have hwin : out[n] = best := by
      have := hS.win
      rw [List.getElem?_eq_getElem hno] at this
      exact Option.some.inj this
    have hm0 : mSites out = 0 := mSites_zero.2 ⟨by have := (mSites_zero.1 h0).1; omega, hS.ok⟩
    have hrb : mRes out n = .inl (resOut best n out) := by
      unfold mRes
      rw [if_pos hm0, if_pos (by omega)]
      simp only [Int.toNat_natCast, hS.win]
      rw [if_pos hrole]
    rw [hrb] at h67b
    have hag := hS.again
    have hsub := hS.sub
    have hfl := (res_len best n out 0 ([], []) _ (resOut_fold best n out)).2
    simp only [List.length_nil, Nat.zero_add] at hfl
    generalize resOut best n out = rb at *
    obtain ⟨out2, fen2⟩ := rb
    simp only at hag hsub hfl
    subst hag
    have h70 := f70_same out2 ho []
    have h20 := f20_spec fen2 79 [.fp [zInts fen], .fp [zSites l]] (fun _ => false) rfl (by omega) (fun x hx => f79_spec fen l x (hsub x hx) (by omega) []) []
    have hany : (fen2.any fun _ => false) = false := by simp
    rw [hany] at h20
    obtain ⟨R, hR⟩ := f16_loop l out2 fen n best hS hl ho hbl (by omega) hn Y
    simp only [bodyOf, Go.Proofs.Try.f16, Option.getD_some, loopsOf, rangesOf, List.nil_append, List.append_nil, List.cons_append, List.getElem?_cons_zero, List.getElem?_cons_succ] at hR
    simp only [go_sem, and_imp] at hR
    simp only [zRes, go_sem] at h67 h67b h70 h20
    simp [go_sem, h64, c0, hw, h67, h67b, h70, h20, hR, e1, show ¬ l.length ≤ n by omega]
end Go.Proofs.Ytlphdiccffnckaa

