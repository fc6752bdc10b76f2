/- Texts put together: Ioa, Iob, Ioc, Iod. -/
import Derived.Test.YtlphdiccffnckaaPam
import Derived.Test.YtlphdiccffnckaaPae

/- Layer 54: three images that are compared; what is chosen from them. -/
namespace Go.Proofs.Ytlphdiccffnckaa
open Go Go.Abs
theorem f72_eq : fs 72 = some (mkFn w72 Go.Proofs.Try.f72 (bodyOf Go.Proofs.Try.f72)) := by kernel_rfl
theorem f74_eq : fs 74 = some (mkFn {} Go.Proofs.Try.f74 (bodyOf Go.Proofs.Try.f74)) := by kernel_rfl
theorem f161_eq : fs 161 = some (mkFn {} Go.Proofs.Try.f161 (bodyOf Go.Proofs.Try.f161)) := by kernel_rfl
theorem f162_eq : fs 162 = some (mkFn w162 Go.Proofs.Try.f162 (bodyOf Go.Proofs.Try.f162)) := by kernel_rfl
theorem f163_eq : fs 163 = some (mkFn {} Go.Proofs.Try.f163 (bodyOf Go.Proofs.Try.f163)) := by kernel_rfl
theorem f164_eq : fs 164 = some (mkFn {} Go.Proofs.Try.f164 (bodyOf Go.Proofs.Try.f164)) := by kernel_rfl
theorem f167_eq : fs 167 = some (mkFn {} Go.Proofs.Try.f167 (bodyOf Go.Proofs.Try.f167)) := by kernel_rfl
theorem f211_eq : fs 211 = some (mkFn {} Go.Proofs.Try.f211 (bodyOf Go.Proofs.Try.f211)) := by kernel_rfl

theorem f211_spec (a b : Vol) (Y : List YF) : callS ev fs 211 [zVol a, zVol b] [] Y = some (.ret (zB (decide (a.length = b.length))), []) := by
  refine callS_by f211_eq rfl ?_
  simp only [bodyOf, Go.Proofs.Try.f211, Option.getD_some]
  by_cases h : a.length = b.length
  · simp [go_sem, h]
  · simp [go_sem, h, Int.ofNat_inj]

theorem foldE_len (b : Img) : ∀ (a : Img) (i : Nat), a.length + i = b.length → foldE (ρ := Unit) (fun i (_ : Unit) x => if some x.length = (b[i]?).map List.length then .inl () else .inr ()) i () a = if a.map List.length = (b.drop i).map List.length then .inl () else .inr ()
  | [], i, h => by simp at h; simp [foldE, List.drop_of_length_le (show b.length ≤ i by omega)]
  | x :: a, i, h => by
    have hlt : i < b.length := by simp at h; omega
    simp only [foldE, List.getElem?_eq_getElem hlt, Option.map_some]
    rw [List.drop_eq_getElem_cons hlt]
    by_cases hx : x.length = b[i].length
    · simp only [hx, if_true, List.map_cons]
      rw [foldE_len b a (i + 1) (by simp at h; omega)]
      simp
    · simp only [Option.some.injEq, hx, if_false, List.map_cons, List.cons.injEq, false_and]

theorem f108_len (a b : Img) (hl : a.length < 1000000000) (Y : List YF) : callS ev fs 108 [zImg a, zImg b, .fn 211 []] [] Y = some (.ret (zB (decide (a.map List.length = b.map List.length))), []) := by
  refine callS_by f108_eq rfl ?_
  simp only [bodyOf, Go.Proofs.Try.f108, Option.getD_some]
  by_cases h1 : a.length ≠ b.length
  · have hm : ¬ a.map List.length = b.map List.length := fun h => h1 (sizes_len h)
    simp [go_sem, h1, hm, Int.ofNat_inj]
  replace h1 : a.length = b.length := by omega
  obtain ⟨R, hR⟩ := fold_loop (E := ev) (C := callS ev fs) (Y := Y) (w := {}) (a := (loopsOf (bodyOf Go.Proofs.Try.f108))[0]?.getD .skip) (b := 0) 
    a (fun i (_ : Unit) x => if some x.length = (b[i]?).map List.length then .inl () else .inr ()) () (ex := fun _ => .ret)
    (fun i _ => Live [(1, zImg b), (2, .fn 211 []), (15, zImg a), (16, zI a.length), (17, zI i)] [] 0) (fun _ => Live [] [] 0) (fun _ => Live [(6, zB false)] [] 0)
    (fun i s st hi h => by
      obtain ⟨tm, H, b⟩ := st
      simp only [bodyOf, Go.Proofs.Try.f108, Option.getD_some, loopsOf, rangesOf, List.nil_append, List.append_nil, List.cons_append, List.getElem?_cons_zero, List.getElem?_cons_succ]
      simp only [go_sem] at h
      obtain ⟨h1', h2, h15, h16, h17, rfl, rfl⟩ := h
      have hib : i < b.length := by omega
      have hc := f211_spec a[i] b[i] []
      simp only [go_sem] at hc
      by_cases hp : a[i].length = b[i].length
      · simp [hp] at hc
        simp [go_sem, h1', h2, h15, h16, h17, hi, hib, hp, hc, show i < 1000000000 by omega]
      · simp [hp] at hc
        simp [go_sem, h1', h2, h15, h16, h17, hi, hib, hp, hc])
    (fun s st h => by
      obtain ⟨tm, H, b⟩ := st
      simp only [bodyOf, Go.Proofs.Try.f108, Option.getD_some, loopsOf, rangesOf, List.nil_append, List.append_nil, List.cons_append, List.getElem?_cons_zero, List.getElem?_cons_succ]
      simp only [go_sem] at h
      obtain ⟨h1', h2, h15, h16, h17, rfl, rfl⟩ := h
      simp [go_sem, h16, h17])
    (fun _ h => by cases h)
  simp only [bodyOf, Go.Proofs.Try.f108, Option.getD_some, loopsOf, rangesOf, List.nil_append, List.append_nil, List.cons_append, List.getElem?_cons_zero, List.getElem?_cons_succ] at hR
  rw [foldE_len b a 0 (by omega), List.drop_zero] at hR
  by_cases hab : a.map List.length = b.map List.length
  · simp [go_sem, hab] at hR
    simp [go_sem, hab, h1, hR]
  · simp [go_sem, hab] at hR
    simp [go_sem, hab, h1, hR]

/-- What three images that are compared are told. -/
def mThree (a b c : Img) : Int := if mCheck a = 0 then if mCheck b = 0 then if mCheck c = 0 then (if a.map List.length = c.map List.length ∧ b.map List.length = c.map List.length then 0 else 22) else mCheck c else mCheck b else mCheck a

theorem f161_spec (a b c : Img) (ha : a.length < 100000000) (hb : b.length < 100000000) (hc : c.length < 100000000) (Y : List YF) :
    callS ev fs 161 [.sl false 1 [[zImg a], [zImg b], [zImg c]]] [] Y = some (.ret (zI (mThree a b c)), []) := by
  refine callS_by f161_eq rfl ?_
  simp only [bodyOf, Go.Proofs.Try.f161, Option.getD_some]
  have h26 : ∀ x ∈ [a, b, c], callS ev fs 26 [zImg x] [] [] = some (.ret (zI (mCheck x)), []) := fun x hx => f26_spec x (by
    simp at hx
    rcases hx with rfl | rfl | rfl <;> assumption) []
  have h108 : ∀ x ∈ [b, c], callS ev fs 108 [zImg x, zImg a, .fn 211 []] [] [] = some (.ret (zB (decide (x.map List.length = a.map List.length))), []) := fun x hx => f108_len x a (by
    simp at hx
    rcases hx with rfl | rfl <;> omega) []
  obtain ⟨R, hR⟩ := fold_loop (E := ev) (C := callS ev fs) (Y := Y) (w := {}) (a := (loopsOf (bodyOf Go.Proofs.Try.f161))[0]?.getD .skip) (b := 0) 
    [a, b, c] (fun _ (_ : Unit) x => if mCheck x = 0 then .inl () else .inr (mCheck x)) () (ex := fun _ => .ret)
    (fun i _ => Live [(0, .sl false 1 ([a, b, c].map fun x => [zImg x])), (8, .sl false 1 ([a, b, c].map fun x => [zImg x])), (9, zI 3), (10, zI i)] [] 0) (fun _ => Live [(0, .sl false 1 ([a, b, c].map fun x => [zImg x]))] [] 0) (fun e => Live [(2, zI e)] [] 0)
    (fun i s st hi h => by
      obtain ⟨tm, H, b⟩ := st
      simp only [bodyOf, Go.Proofs.Try.f161, Option.getD_some, loopsOf, rangesOf, List.nil_append, List.append_nil, List.cons_append, List.getElem?_cons_zero, List.getElem?_cons_succ]
      simp only [go_sem] at h
      obtain ⟨h0, h8, h9, h10, rfl, rfl⟩ := h
      have hc := h26 [a, b, c][i] (List.getElem_mem hi)
      have hi2 : i < 3 := by simpa using hi
      have hget : ([a, b, c].map fun x => [zImg x])[i]? = some [zImg [a, b, c][i]] := by
        rw [List.getElem?_map, List.getElem?_eq_getElem hi]; rfl
      generalize [a, b, c][i] = x at hc hget ⊢
      simp only [go_sem] at hc hget h0 h8
      generalize hrows : (List.map _ [a, b, c]) = rows at hget h0 h8 ⊢
      by_cases h0' : mCheck x = 0
      · simp [go_sem, h0, h8, h9, h10, hget, hc, h0', hi2, show i < 1000000000 by omega]
        rw [← hrows]
        rfl
      · simp [go_sem, h0, h8, h9, h10, hget, hc, h0', hi2])
    (fun s st h => by
      obtain ⟨tm, H, b⟩ := st
      simp only [bodyOf, Go.Proofs.Try.f161, Option.getD_some, loopsOf, rangesOf, List.nil_append, List.append_nil, List.cons_append, List.getElem?_cons_zero, List.getElem?_cons_succ]
      simp only [go_sem] at h
      obtain ⟨h0, h8, h9, h10, rfl, rfl⟩ := h
      simp [go_sem, h0, h8, h9, h10])
    (fun _ h => by cases h)
  obtain ⟨S, hS⟩ := fold_loop (E := ev) (C := callS ev fs) (Y := Y) (w := {}) (a := (loopsOf (bodyOf Go.Proofs.Try.f161))[1]?.getD .skip) (b := 2) 
    [b, c] (fun _ (_ : Unit) x => if x.map List.length = a.map List.length then .inl () else .inr ()) () (ex := fun _ => .ret)
    (fun i _ => Live [(0, .sl false 1 ([a, b, c].map fun x => [zImg x])), (21, .sl false 1 ([b, c].map fun x => [zImg x])), (22, zI 2), (23, zI i)] [] 0) (fun _ => Live [] [] 0) (fun e => Live [(2, zI 22)] [] 0)
    (fun i s st hi h => by
      obtain ⟨tm, H, b⟩ := st
      simp only [bodyOf, Go.Proofs.Try.f161, Option.getD_some, loopsOf, rangesOf, List.nil_append, List.append_nil, List.cons_append, List.getElem?_cons_zero, List.getElem?_cons_succ]
      simp only [go_sem] at h
      obtain ⟨h0, h21, h22, h23, rfl, rfl⟩ := h
      have hc := h108 [b, c][i] (List.getElem_mem hi)
      have hi2 : i < 2 := by simpa using hi
      have hget : ([b, c].map fun x => [zImg x])[i]? = some [zImg [b, c][i]] := by
        rw [List.getElem?_map, List.getElem?_eq_getElem hi]; rfl
      have hget0 : ([a, b, c].map fun x => [zImg x])[0]? = some [zImg a] := rfl
      generalize [b, c][i] = x at hc hget ⊢
      simp only [go_sem] at hc hget h0 h21 hget0
      generalize hrows : (List.map _ [b, c]) = rows at hget h21 ⊢
      generalize hrows2 : (List.map _ [a, b, c]) = rows2 at hget0 h0 ⊢
      by_cases h0' : x.map List.length = a.map List.length
      · simp only [h0', decide_true] at hc
        simp [go_sem, h0, h21, h22, h23, hget, hget0, hc, h0', hi2, show i < 1000000000 by omega]
        rw [← hrows, ← hrows2]
        first | exact ⟨rfl, rfl⟩ | rfl
      · simp only [h0', decide_false] at hc
        simp [go_sem, h0, h21, h22, h23, hget, hget0, hc, h0', hi2])
    (fun s st h => by
      obtain ⟨tm, H, b⟩ := st
      simp only [bodyOf, Go.Proofs.Try.f161, Option.getD_some, loopsOf, rangesOf, List.nil_append, List.append_nil, List.cons_append, List.getElem?_cons_zero, List.getElem?_cons_succ]
      simp only [go_sem] at h
      obtain ⟨h0, h21, h22, h23, rfl, rfl⟩ := h
      simp [go_sem, h0, h21, h22, h23])
    (fun _ h => by cases h)
  simp only [bodyOf, Go.Proofs.Try.f161, Option.getD_some, loopsOf, rangesOf, List.nil_append, List.append_nil, List.cons_append, List.getElem?_cons_zero, List.getElem?_cons_succ] at hR hS
  simp only [foldE] at hR hS
  by_cases h0 : ¬ mCheck a = 0
  · simp [go_sem, h0] at hR
    simp [go_sem, hR, mThree, h0]
  replace h0 : mCheck a = 0 := Decidable.not_not.1 h0
  by_cases h1 : ¬ mCheck b = 0
  · simp [go_sem, h0, h1] at hR
    simp [go_sem, hR, mThree, h0, h1]
  replace h1 : mCheck b = 0 := Decidable.not_not.1 h1
  by_cases h2 : ¬ mCheck c = 0
  · simp [go_sem, h0, h1, h2] at hR
    simp [go_sem, hR, mThree, h0, h1, h2]
  replace h2 : mCheck c = 0 := Decidable.not_not.1 h2
  simp [go_sem, h0, h1, h2] at hR
  by_cases s1 : ¬ b.map List.length = a.map List.length
  · have : ¬ (a.map List.length = c.map List.length ∧ b.map List.length = c.map List.length) := fun h => s1 (h.2.trans h.1.symm)
    simp [go_sem, s1] at hS
    simp [go_sem, hR, hS, mThree, h0, h1, h2, this]
  replace s1 := Decidable.not_not.1 s1
  by_cases s2 : ¬ c.map List.length = a.map List.length
  · have : ¬ (a.map List.length = c.map List.length ∧ b.map List.length = c.map List.length) := fun h => s2 h.1.symm
    simp [go_sem, s1, s2] at hS
    simp [go_sem, hR, hS, mThree, h0, h1, h2, this]
  replace s2 := Decidable.not_not.1 s2
  have : a.map List.length = c.map List.length ∧ b.map List.length = c.map List.length := ⟨s2.symm, s1.trans s2.symm⟩
  simp [go_sem, s1, s2] at hS
  simp [go_sem, hR, hS, mThree, h0, h1, h2, this]
end Go.Proofs.Ytlphdiccffnckaa

/- Layer 54: what is chosen from three images, sector by sector; Conflicts, Merge. -/
namespace Go.Proofs.Ytlphdiccffnckaa
open Go Go.Abs

def sOne : Sec := ⟨[1, 0, 0, 0, 0, 0, 0, 0], rfl⟩
def sZero : Sec := ⟨[0, 0, 0, 0, 0, 0, 0, 0], rfl⟩
def inConf (x y z : Sec) : Bool := decide (¬ x = z) && decide (¬ y = z) && decide (¬ x = y)
def mark (x y z : Sec) : Sec := if inConf x y z = true then sOne else sZero
def merge1 (x y z : Sec) : Sec := if x = z then y else x
def blank (_ _ _ : Sec) : Sec := sZero

theorem app_at {H : List Ent} {k : Nat} {e : Ent} (h : H[k]? = some e) (B : List Ent) : (H ++ B)[k]? = some e := get_app h
@[go_sem] theorem secRow_app_drop (s : Sec) (l : List AV) : (secRow s ++ l).drop 8 = l := by
  rw [← secRow_len s, List.drop_left]
@[go_sem] theorem secRow_app_take (s : Sec) (l : List AV) : (secRow s ++ l).take 8 = secRow s := by
  rw [← secRow_len s, List.take_left]

theorem f163_spec (x y z : Sec) (H : List Ent) (k9 k10 : Nat) (h9 : H[k9]? = some (.box (secRow sOne))) (h10 : H[k10]? = some (.box (secRow sZero))) (Y : List YF) :
    callS ev fs 163 [.agg (secRow x), .agg (secRow y), .agg (secRow z), .bp k9 0, .bp k10 0] H Y = some (.ret (.agg (secRow (mark x y z))), H) := by
  refine callS_by f163_eq rfl ?_
  simp only [bodyOf, Go.Proofs.Try.f163, Option.getD_some]
  have g9 := fun B => app_at h9 B
  have g10 := fun B => app_at h10 B
  have l9 := (List.getElem?_eq_some_iff.1 h9).1
  have l10 := (List.getElem?_eq_some_iff.1 h10).1
  by_cases c1 : x = z
  · subst c1
    simp [go_sem, g9, g10, mark, inConf]
  by_cases c2 : y = z
  · subst c2
    simp [go_sem, g9, g10, c1, mark, inConf]
  by_cases c3 : x = y
  · subst c3
    simp [go_sem, g9, g10, c1, mark, inConf]
  simp [go_sem, g9, g10, c1, c2, c3, mark, inConf]

theorem f164_spec (x y z : Sec) (H : List Ent) (k10 : Nat) (h10 : H[k10]? = some (.box (secRow sZero))) (Y : List YF) :
    callS ev fs 164 [.agg (secRow x), .agg (secRow y), .agg (secRow z), .bp k10 0] H Y = some (.ret (.agg (secRow (blank x y z))), H) := by
  refine callS_by f164_eq rfl ?_
  simp only [bodyOf, Go.Proofs.Try.f164, Option.getD_some]
  have g10 := fun B => app_at h10 B
  simp [go_sem, g10, blank]

theorem f167_spec (x y z : Sec) (H : List Ent) (Y : List YF) :
    callS ev fs 167 [.agg (secRow x), .agg (secRow y), .agg (secRow z)] H Y = some (.ret (.agg (secRow (merge1 x y z))), H) := by
  refine callS_by f167_eq rfl ?_
  simp only [bodyOf, Go.Proofs.Try.f167, Option.getD_some]
  by_cases c1 : x = z
  · subst c1
    simp [go_sem, merge1]
  · simp [go_sem, c1, merge1]
end Go.Proofs.Ytlphdiccffnckaa

/- Layer 54: the image that is chosen; Conflicts, Merge. -/
namespace Go.Proofs.Ytlphdiccffnckaa
open Go Go.Abs

def pick3 (q : Sec → Sec → Sec → Sec) (va vb vc : Vol) : Vol := List.zipWith (fun z p => q p.1 p.2 z) vc (va.zip vb)
def choose (q : Sec → Sec → Sec → Sec) (a b c : Img) : Img := List.zipWith (fun vc p => pick3 q p.1 p.2 vc) c (a.zip b)
theorem pick3_len {q : Sec → Sec → Sec → Sec} {va vb vc : Vol} (h1 : va.length = vc.length) (h2 : vb.length = vc.length) : (pick3 q va vb vc).length = vc.length := by
  simp [pick3, List.length_zip, h1, h2]
theorem choose_sizes {q : Sec → Sec → Sec → Sec} {a b c : Img} (h1 : a.map List.length = c.map List.length) (h2 : b.map List.length = c.map List.length) : (choose q a b c).map List.length = c.map List.length := by
  have l1 := sizes_len h1
  have l2 := sizes_len h2
  refine List.ext_getElem (by simp [choose, l1, l2]) fun i q1 q2 => ?_
  simp only [List.getElem_map, choose, List.getElem_zipWith, List.getElem_zip]
  simp only [List.length_map] at q2
  exact pick3_len (sizes_get h1 (by omega) q2) (sizes_get h2 (by omega) q2)

theorem f162_spec (q : Sec → Sec → Sec → Sec) (g : Nat) (caps : List AV) (a b c : Img) (h1 : a.map List.length = c.map List.length) (h2 : b.map List.length = c.map List.length) (hl : c.length < 100000000) (hv : ∀ v ∈ c, v.length < 100000000)
    (H : List Ent) (Y : List YF) (hu : ∀ n, H.length ≤ n → AV.underL n caps = true)
    (hg : ∀ x y z B, callS ev fs g ([.agg (secRow x), .agg (secRow y), .agg (secRow z)] ++ caps) (H ++ B) Y = some (.ret (.agg (secRow (q x y z))), H ++ B)) :
    callS ev fs 162 [zImg a, zImg b, zImg c, .fn g caps] H Y = some (.ret (zImg (choose q a b c)), H) := by
  have la := sizes_len h1
  have lb := sizes_len h2
  have hu1 := hu (H.length + 1) (by omega)
  have hu2 : ∀ s : Img, AV.underLL (H.length + 1) (s.map fun v => [AV.sl false 8 (v.map secRow)]) = true := underLL_maps (fun _ => rfl)
  refine callS_by f162_eq rfl ?_
  simp only [bodyOf, Go.Proofs.Try.f162, Option.getD_some]
  obtain ⟨R, hR⟩ := fold_loop (E := ev) (C := callS ev fs) (Y := Y) (w := w162) (a := (loopsOf (bodyOf Go.Proofs.Try.f162))[0]?.getD .skip) (b := 0) 
    c (fun i s vc => .inl (s ++ [(fun vc p => pick3 q p.1 p.2 vc) vc (((a.zip b)[i]?).getD ([], []))])) ([] : Img) (ex := fun (r : Empty) => nomatch r)
    (fun i s st => (s.length = i ∧ ∃ B, st.H = H ++ .own i 1 (s.map fun v => [zVol v]) :: B) ∧ LiveT [(0, zImg a), (1, zImg b), (2, zImg c), (3, .fn g caps), (9, .os H.length 0 i i), (13, zImg c), (14, zI c.length), (15, zI i)] H.length st)
    (fun s => Live [(9, .os H.length 0 c.length c.length)] (H ++ [.own c.length 1 (s.map fun v => [zVol v])]) H.length) (fun r => nomatch r)
    (fun i s st hi h => by
      obtain ⟨⟨hs, B, hH⟩, h⟩ := h
      subst hs
      have hia : s.length < a.length := by omega
      have hib : s.length < b.length := by omega
      have sa := sizes_get h1 hia hi
      have sb := sizes_get h2 hib hi
      have hvi := hv _ (List.getElem_mem hi)
      generalize hk : s.length = i at *
      have hzip : ((a.zip b)[i]?).getD ([], []) = (a[i], b[i]) := by
        rw [List.getElem?_eq_getElem (by simp [List.length_zip]; omega)]
        simp
      rw [hzip]
      obtain ⟨S, hS⟩ := fold_loop (E := ev) (C := callS ev fs) (Y := Y) (w := w162) (a := (loopsOf (bodyOf Go.Proofs.Try.f162))[1]?.getD .skip) (b := 2) 
        (c[i]) (fun k t z => .inl (t ++ [(fun z p => q p.1 p.2 z) z (((a[i].zip b[i])[k]?).getD (sZero, sZero))])) ([] : Vol) (ex := fun (r : Empty) => nomatch r)
        (fun k t st => t.length = k ∧ Live [(0, zImg a), (1, zImg b), (2, zImg c), (3, .fn g caps), (9, .os H.length 0 i i), (10, zI i), (11, .os (H.length + 1) 0 k k), (13, zImg c), (14, zI c.length), (15, zI i), (22, zI (c[i]).length), (23, zI k)] (H ++ [.own i 1 (s.map fun v => [zVol v]), .own k 8 (t.map secRow)]) H.length st)
        (fun t => Live [(0, zImg a), (1, zImg b), (2, zImg c), (3, .fn g caps), (9, .os H.length 0 i i), (10, zI i), (11, .os (H.length + 1) 0 (c[i]).length (c[i]).length), (13, zImg c), (14, zI c.length), (15, zI i)] (H ++ [.own i 1 (s.map fun v => [zVol v]), .own (c[i]).length 8 (t.map secRow)]) H.length) (fun r => nomatch r)
        (fun k t st hj h => by
          obtain ⟨rfl, h⟩ := h
          obtain ⟨tm, H, b⟩ := st
          simp only [bodyOf, Go.Proofs.Try.f162, Option.getD_some, loopsOf, rangesOf, List.nil_append, List.append_nil, List.cons_append, List.getElem?_cons_zero, List.getElem?_cons_succ]
          simp only [go_sem] at h
          obtain ⟨g0, g1, g2, g3, g9, g10, g11, g13, g14, g15, g22, g23, rfl, rfl⟩ := h
          have hka : t.length < a[i].length := by omega
          have hkb : t.length < b[i].length := by omega
          have hq := fun B => hg a[i][t.length] b[i][t.length] c[i][t.length] B
          have hr : room (t.length + 1) 8 = true := room_ok (by omega) (by omega) (by omega)
          have hz : ((a[i].zip b[i])[t.length]?).getD (sZero, sZero) = (a[i][t.length], b[i][t.length]) := by
            rw [List.getElem?_eq_getElem (by simp [List.length_zip]; omega)]
            simp
          simp only [List.cons_append, List.nil_append] at hq
          rw [hz]
          simp [go_sem, g0, g1, g2, g3, g9, g10, g11, g13, g14, g15, g22, g23, hi, hia, hib, hj, hka, hkb, hq, hr, show i < 1000000000 by omega, show t.length < 1000000000 by omega])
        (fun t st h => by
          obtain ⟨ht, h⟩ := h
          obtain ⟨tm, H, b⟩ := st
          simp only [bodyOf, Go.Proofs.Try.f162, Option.getD_some, loopsOf, rangesOf, List.nil_append, List.append_nil, List.cons_append, List.getElem?_cons_zero, List.getElem?_cons_succ]
          simp only [go_sem] at h
          obtain ⟨g0, g1, g2, g3, g9, g10, g11, g13, g14, g15, g22, g23, rfl, rfl⟩ := h
          simp [go_sem, g0, g1, g2, g3, g9, g10, g11, g13, g14, g15, g22, g23])
        (fun r => nomatch r)
      simp only [bodyOf, Go.Proofs.Try.f162, Option.getD_some, loopsOf, rangesOf, List.nil_append, List.append_nil, List.cons_append, List.getElem?_cons_zero, List.getElem?_cons_succ] at hS
      have hfz : foldE (ρ := Empty) (fun k t z => .inl (t ++ [(fun z p => q p.1 p.2 z) z (((a[i].zip b[i])[k]?).getD (sZero, sZero))])) 0 [] c[i] = .inl (pick3 q a[i] b[i] c[i]) := by
        rw [foldE_zip (ρ := Empty) (fun z p => q p.1 p.2 z) (sZero, sZero) (a[i].zip b[i]) c[i] 0 [] (by simp [List.length_zip]; omega)]
        rfl
      have hpl := pick3_len (q := q) sa sb
      simp only at hfz
      rw [hfz] at hS
      generalize hpk : pick3 q a[i] b[i] c[i] = pk at *
      have htk : (pk.map secRow).take c[i].length = pk.map secRow := by rw [← hpl]; exact take_map_len _ _
      have htk3 : (s.map fun v => [AV.sl false 8 (v.map secRow)]).take i = s.map fun v => [AV.sl false 8 (v.map secRow)] := by rw [← hk]; exact take_map_len _ _
      have hpp : AV.pureLL (pk.map secRow) = true := pureLL_map secRow_pure _
      simp [go_sem] at hS
      obtain ⟨tm, HH, bb⟩ := st
      simp only [bodyOf, Go.Proofs.Try.f162, Option.getD_some, loopsOf, rangesOf, List.nil_append, List.append_nil, List.cons_append, List.getElem?_cons_zero, List.getElem?_cons_succ]
      simp only [go_sem] at h
      simp only at hH
      subst hH
      obtain ⟨g0, g1, g2, g3, g9, g13, g14, g15, rfl⟩ := h
      have hr : room (i + 1) 24 = true := room_ok (by omega) (by omega) (by omega)
      simp [go_sem, g0, g1, g2, g3, g9, g13, g14, g15, hi, hu1, hu2, hS, hr, hk, htk, htk3, hpk, hpp, hpl, show i < 1000000000 by omega])
    (fun s st h => by
      obtain ⟨⟨hs, B, hH⟩, h⟩ := h
      obtain ⟨tm, HH, bb⟩ := st
      simp only [bodyOf, Go.Proofs.Try.f162, Option.getD_some, loopsOf, rangesOf, List.nil_append, List.append_nil, List.cons_append, List.getElem?_cons_zero, List.getElem?_cons_succ]
      simp only [go_sem] at h
      simp only at hH
      subst hH
      obtain ⟨g0, g1, g2, g3, g9, g13, g14, g15, rfl⟩ := h
      simp [go_sem, g0, g1, g2, g3, g9, g13, g14, g15, hu1, hu2])
    (fun r => nomatch r)
  simp only [bodyOf, Go.Proofs.Try.f162, Option.getD_some, loopsOf, rangesOf, List.nil_append, List.append_nil, List.cons_append, List.getElem?_cons_zero, List.getElem?_cons_succ] at hR
  have hfz : foldE (ρ := Empty) (fun i s vc => .inl (s ++ [(fun vc p => pick3 q p.1 p.2 vc) vc (((a.zip b)[i]?).getD ([], []))])) 0 [] c = .inl (choose q a b c) := by
    rw [foldE_zip (ρ := Empty) (fun vc p => pick3 q p.1 p.2 vc) ([], []) (a.zip b) c 0 [] (by simp [List.length_zip]; omega)]
    rfl
  have hcl := sizes_len (choose_sizes (q := q) h1 h2)
  simp only at hfz
  rw [hfz] at hR
  generalize choose q a b c = ch at *
  have htk : (ch.map fun v => [AV.sl false 8 (v.map secRow)]).take c.length = ch.map fun v => [AV.sl false 8 (v.map secRow)] := by rw [← hcl]; exact take_map_len _ _
  simp [go_sem] at hR
  simp [go_sem, freeze_os, hcl, htk, hR]

theorem alike_zero {a b c : Img} (h : mThree a b c = 0) : mCheck a = 0 ∧ mCheck b = 0 ∧ mCheck c = 0 ∧ a.map List.length = c.map List.length ∧ b.map List.length = c.map List.length := by
  unfold mThree at h
  split at h
  · rename_i h1
    split at h
    · rename_i h2
      split at h
      · rename_i h3
        split at h
        · rename_i h4
          exact ⟨h1, h2, h3, h4.1, h4.2⟩
        · cases h
      · rename_i h3; exact absurd h h3
    · rename_i h2; exact absurd h h2
  · rename_i h1; exact absurd h h1

def conf (a b c : Img) : List (List Ext) := List.zipWith mExt (choose mark a b c) (choose blank a b c)
def zConf (a b c : Img) : AV := if mThree a b c = 0 then zExtss (conf a b c) else .sc (.slice none 0 0)

theorem f72_spec (a b c : Img) (ha : a.length < 100000000) (hb : b.length < 100000000) (hc : c.length < 100000000) (Y : List YF) :
    callS ev fs 72 [zImg a, zImg b, zImg c] [] Y = some (.ret (.tup [zConf a b c, zI (mThree a b c)]), []) := by
  refine callS_by f72_eq rfl ?_
  simp only [bodyOf, Go.Proofs.Try.f72, Option.getD_some]
  have h161 := f161_spec a b c ha hb hc []
  by_cases h0 : ¬ mThree a b c = 0
  · simp only [go_sem] at h161
    simp [go_sem, slLit, Go.Abs.chunks, h161, h0, zConf]
  replace h0 : mThree a b c = 0 := Decidable.not_not.1 h0
  obtain ⟨q1, q2, q3, s1, s2⟩ := alike_zero h0
  obtain ⟨r1, r2, r3⟩ := mCheck_zero q3
  have hv : ∀ v ∈ c, v.length < 100000000 := fun v h => by have := (r3 v h).2; omega
  have e9 : ([.box (secRow sOne), .box (secRow sZero)] : List Ent)[0]? = some (.box (secRow sOne)) := rfl
  have e10 : ([.box (secRow sOne), .box (secRow sZero)] : List Ent)[1]? = some (.box (secRow sZero)) := rfl
  have h1 := f162_spec mark 163 [.bp 0 0, .bp 1 0] a b c s1 s2 hc hv [.box (secRow sOne), .box (secRow sZero)] Y (fun n hn => by simp at hn; simp [AV.underL, AV.under]; omega)
    (fun x y z B => f163_spec x y z _ 0 1 (app_at e9 B) (app_at e10 B) Y)
  have h2 := f162_spec blank 164 [.bp 1 0] a b c s1 s2 hc hv [.box (secRow sOne), .box (secRow sZero)] Y (fun n hn => by simp at hn; simp [AV.underL, AV.under]; omega)
    (fun x y z B => f164_spec x y z _ 1 (app_at e10 B) Y)
  have sz1 := choose_sizes (q := mark) s1 s2
  have sz2 := choose_sizes (q := blank) s1 s2
  have h34 := f34_spec (choose mark a b c) (choose blank a b c) (by rw [sizes_len sz1]; exact hc) (by rw [sizes_len sz2]; exact hc) []
  have hp : mPair (choose mark a b c) (choose blank a b c) = 0 := by
    unfold mPair
    rw [mCheck_sizes sz1, mCheck_sizes sz2, q3, sz1, sz2]
    simp
  simp only [zDiffer, hp, if_true] at h34
  simp only [zConf, h0, if_true, conf]
  generalize choose mark a b c = m1 at *
  generalize choose blank a b c = m2 at *
  generalize List.zipWith mExt m1 m2 = es at *
  simp only [go_sem, h0, secRow, sOne, sZero, List.map_cons, List.map_nil] at h161 h1 h2 h34
  simp [go_sem, slLit, Go.Abs.chunks, h161, h1, h2, h34]

def zMerge (a b c : Img) : AV := if mThree a b c = 0 then zImg (choose merge1 a b c) else .sc (.slice none 0 0)
theorem zConf_pure (a b c : Img) : AV.pure (zConf a b c) = true := by unfold zConf; split <;> rfl
theorem zMerge_pure (a b c : Img) : AV.pure (zMerge a b c) = true := by unfold zMerge; split <;> rfl
theorem f74_spec (a b c : Img) (ha : a.length < 100000000) (hb : b.length < 100000000) (hc : c.length < 100000000) (Y : List YF) :
    callS ev fs 74 [zImg a, zImg b, zImg c] [] Y = some (.ret (.tup [zMerge a b c, zConf a b c, zI (mThree a b c)]), []) := by
  refine callS_by f74_eq rfl ?_
  simp only [bodyOf, Go.Proofs.Try.f74, Option.getD_some]
  have h72 := f72_spec a b c ha hb hc []
  have hcp := zConf_pure a b c
  generalize hzc : zConf a b c = zc at *
  by_cases h0 : ¬ mThree a b c = 0
  · simp only [zConf, h0, if_false] at hzc
    subst hzc
    simp only [go_sem] at h72
    simp [go_sem, h72, h0, zMerge]
  replace h0 : mThree a b c = 0 := Decidable.not_not.1 h0
  obtain ⟨q1, q2, q3, s1, s2⟩ := alike_zero h0
  obtain ⟨r1, r2, r3⟩ := mCheck_zero q3
  have hv : ∀ v ∈ c, v.length < 100000000 := fun v h => by have := (r3 v h).2; omega
  have h1 := f162_spec merge1 167 [] a b c s1 s2 hc hv [] [] (fun n hn => rfl) (fun x y z B => f167_spec x y z _ [])
  simp only [zMerge, h0, if_true]
  generalize choose merge1 a b c = m1 at *
  simp only [go_sem, h0] at h72 h1
  simp [go_sem, h72, h1, hcp]
end Go.Proofs.Ytlphdiccffnckaa

/- Layer 54: Conflicts and Merge of the reference. -/
namespace Go.Proofs.Ytlphdiccffnckaa
open Go Go.Abs
theorem f73_eq : fs 73 = some (mkFn w73 Go.Proofs.Try.f73 (bodyOf Go.Proofs.Try.f73)) := by kernel_rfl
theorem f75_eq : fs 75 = some (mkFn w75 Go.Proofs.Try.f75 (bodyOf Go.Proofs.Try.f75)) := by kernel_rfl
theorem f76_eq : fs 76 = some (mkFn {} Go.Proofs.Try.f76 (bodyOf Go.Proofs.Try.f76)) := by kernel_rfl
theorem f165_eq : fs 165 = some (mkFn {} Go.Proofs.Try.f165 (bodyOf Go.Proofs.Try.f165)) := by kernel_rfl
theorem f166_eq : fs 166 = some (mkFn w166 Go.Proofs.Try.f166 (bodyOf Go.Proofs.Try.f166)) := by kernel_rfl
theorem f168_eq : fs 168 = some (mkFn {} Go.Proofs.Try.f168 (bodyOf Go.Proofs.Try.f168)) := by kernel_rfl

theorem f168_spec (a b : List Ext) (hl : a.length < 1000000000) (Y : List YF) : callS ev fs 168 [zExts a, zExts b] [] Y = some (.ret (zB (decide (a = b))), []) := by
  refine callS_by f168_eq rfl ?_
  simp only [bodyOf, Go.Proofs.Try.f168, Option.getD_some]
  by_cases h1 : a.length ≠ b.length
  · have hm : ¬ a = b := fun h => h1 (by rw [h])
    simp [go_sem, h1, hm, Int.ofNat_inj]
  replace h1 : a.length = b.length := by omega
  obtain ⟨R, hR⟩ := fold_loop (E := ev) (C := callS ev fs) (Y := Y) (w := {}) (a := (loopsOf (bodyOf Go.Proofs.Try.f168))[0]?.getD .skip) (b := 0) 
    a (fun i (_ : Unit) x => if some x = b[i]? then .inl () else .inr ()) () (ex := fun _ => .ret)
    (fun i _ => Live [(0, zExts a), (1, zExts b), (5, zI i)] [] 0) (fun _ => Live [] [] 0) (fun _ => Live [(4, zB false)] [] 0)
    (fun i s st hi h => by
      obtain ⟨tm, H, b⟩ := st
      simp only [bodyOf, Go.Proofs.Try.f168, Option.getD_some, loopsOf, rangesOf, List.nil_append, List.append_nil, List.cons_append, List.getElem?_cons_zero, List.getElem?_cons_succ]
      simp only [go_sem] at h
      obtain ⟨h0, h1', h5, rfl, rfl⟩ := h
      have hib : i < b.length := by omega
      by_cases hp : a[i] = b[i]
      · simp [go_sem, h0, h1', h5, hi, hib, hp, aggEq, scEq, show i < 1000000000 by omega]
      · have hne : ¬ (a[i].s = b[i].s ∧ a[i].n = b[i].n) := fun h => hp (by
          cases ha : a[i]; cases hb : b[i]; rw [ha, hb] at h; simp at h; simp [h.1, h.2])
        simp [go_sem, h0, h1', h5, hi, hib, hp, aggEq, scEq, hne])
    (fun s st h => by
      obtain ⟨tm, H, b⟩ := st
      simp only [bodyOf, Go.Proofs.Try.f168, Option.getD_some, loopsOf, rangesOf, List.nil_append, List.append_nil, List.cons_append, List.getElem?_cons_zero, List.getElem?_cons_succ]
      simp only [go_sem] at h
      obtain ⟨h0, h1', h5, rfl, rfl⟩ := h
      simp [go_sem, h0, h5])
    (fun _ h => by cases h)
  simp only [bodyOf, Go.Proofs.Try.f168, Option.getD_some, loopsOf, rangesOf, List.nil_append, List.append_nil, List.cons_append, List.getElem?_cons_zero, List.getElem?_cons_succ] at hR
  rw [foldE_eq b a 0 (by omega), List.drop_zero] at hR
  by_cases hab : a = b
  · simp [go_sem, hab] at hR
    simp [go_sem, hab, hR]
  · simp [go_sem, hab] at hR
    simp [go_sem, hab, h1, hR]

theorem f76_spec (a b : List (List Ext)) (hl : a.length < 1000000000) (hx : ∀ x ∈ a, x.length < 1000000000) (Y : List YF) : callS ev fs 76 [zExtss a, zExtss b] [] Y = some (.ret (zB (decide (a = b))), []) := by
  refine callS_by f76_eq rfl ?_
  simp only [bodyOf, Go.Proofs.Try.f76, Option.getD_some]
  by_cases h1 : a.length ≠ b.length
  · have hm : ¬ a = b := fun h => h1 (by rw [h])
    simp [go_sem, h1, hm, Int.ofNat_inj]
  replace h1 : a.length = b.length := by omega
  obtain ⟨R, hR⟩ := fold_loop (E := ev) (C := callS ev fs) (Y := Y) (w := {}) (a := (loopsOf (bodyOf Go.Proofs.Try.f76))[0]?.getD .skip) (b := 0) 
    a (fun i (_ : Unit) x => if some x = b[i]? then .inl () else .inr ()) () (ex := fun _ => .ret)
    (fun i _ => Live [(0, zExtss a), (1, zExtss b), (5, zI i)] [] 0) (fun _ => Live [] [] 0) (fun _ => Live [(4, zB false)] [] 0)
    (fun i s st hi h => by
      obtain ⟨tm, H, b⟩ := st
      simp only [bodyOf, Go.Proofs.Try.f76, Option.getD_some, loopsOf, rangesOf, List.nil_append, List.append_nil, List.cons_append, List.getElem?_cons_zero, List.getElem?_cons_succ]
      simp only [go_sem] at h
      obtain ⟨h0, h1', h5, rfl, rfl⟩ := h
      have hib : i < b.length := by omega
      have hc := f168_spec a[i] b[i] (hx _ (List.getElem_mem hi)) []
      simp only [go_sem] at hc
      by_cases hp : a[i] = b[i]
      · simp [hp] at hc
        simp [go_sem, h0, h1', h5, hi, hib, hp, hc, show i < 1000000000 by omega]
      · simp [hp] at hc
        simp [go_sem, h0, h1', h5, hi, hib, hp, hc])
    (fun s st h => by
      obtain ⟨tm, H, b⟩ := st
      simp only [bodyOf, Go.Proofs.Try.f76, Option.getD_some, loopsOf, rangesOf, List.nil_append, List.append_nil, List.cons_append, List.getElem?_cons_zero, List.getElem?_cons_succ]
      simp only [go_sem] at h
      obtain ⟨h0, h1', h5, rfl, rfl⟩ := h
      simp [go_sem, h0, h5])
    (fun _ h => by cases h)
  simp only [bodyOf, Go.Proofs.Try.f76, Option.getD_some, loopsOf, rangesOf, List.nil_append, List.append_nil, List.cons_append, List.getElem?_cons_zero, List.getElem?_cons_succ] at hR
  rw [foldE_eq b a 0 (by omega), List.drop_zero] at hR
  by_cases hab : a = b
  · simp [go_sem, hab] at hR
    simp [go_sem, hab, hR]
  · simp [go_sem, hab] at hR
    simp [go_sem, hab, h1, hR]
theorem f76_nil' : callN ev fs 10 76 [.sc (.slice none 0 0), .sc (.slice none 0 0)] [] [] = some (.ret (zB true), []) := by kernel_rfl
theorem f76_nil : callS ev fs 76 [.sc (.slice none 0 0), .sc (.slice none 0 0)] [] [] = some (.ret (zB true), []) := callS_iff.2 ⟨10, f76_nil'⟩

theorem f165_spec (a b c : Img) (ha : a.length < 100000000) (hb : b.length < 100000000) (hc : c.length < 100000000) (Y : List YF) :
    callS ev fs 165 [zImg a, zImg b, zImg c] [] Y = some (.ret (zI (mThree a b c)), []) := by
  refine callS_by f165_eq rfl ?_
  simp only [bodyOf, Go.Proofs.Try.f165, Option.getD_some]
  have h26a := f27_spec a ha []
  have h26b := f27_spec b hb []
  have h26c := f27_spec c hc []
  simp only [go_sem] at h26a h26b h26c
  by_cases h0 : ¬ mCheck a = 0
  · simp [go_sem, h26a, mThree, h0]
  replace h0 : mCheck a = 0 := Decidable.not_not.1 h0
  by_cases h1 : ¬ mCheck b = 0
  · simp [go_sem, h26a, h26b, mThree, h0, h1]
  replace h1 : mCheck b = 0 := Decidable.not_not.1 h1
  by_cases h2 : ¬ mCheck c = 0
  · simp [go_sem, h26a, h26b, h26c, mThree, h0, h1, h2]
  replace h2 : mCheck c = 0 := Decidable.not_not.1 h2
  by_cases l1 : ¬ a.length = c.length
  · have : ¬ a.map List.length = c.map List.length := fun h => l1 (sizes_len h)
    simp [go_sem, h26a, h26b, h26c, mThree, h0, h1, h2, this, l1, Int.ofNat_inj]
  replace l1 := Decidable.not_not.1 l1
  by_cases l2 : ¬ b.length = c.length
  · have : ¬ b.map List.length = c.map List.length := fun h => l2 (sizes_len h)
    simp [go_sem, h26a, h26b, h26c, mThree, h0, h1, h2, this, l1, l2, Int.ofNat_inj]
  replace l2 := Decidable.not_not.1 l2
  obtain ⟨R, hR⟩ := fold_loop (E := ev) (C := callS ev fs) (Y := Y) (w := {}) (a := (loopsOf (bodyOf Go.Proofs.Try.f165))[0]?.getD .skip) (b := 0) 
    c (fun i (_ : Unit) x => if some x.length = (a[i]?).map List.length ∧ some x.length = (b[i]?).map List.length then .inl () else .inr ()) () (ex := fun _ => .ret)
    (fun i _ => Live [(0, zImg a), (1, zImg b), (2, zImg c), (10, zI i)] [] 0) (fun _ => Live [] [] 0) (fun _ => Live [(6, zI 22)] [] 0)
    (fun i s st hi h => by
      obtain ⟨tm, H, b⟩ := st
      simp only [bodyOf, Go.Proofs.Try.f165, Option.getD_some, loopsOf, rangesOf, List.nil_append, List.append_nil, List.cons_append, List.getElem?_cons_zero, List.getElem?_cons_succ]
      simp only [go_sem] at h
      obtain ⟨g0, g1, g2, g10, rfl, rfl⟩ := h
      have hia : i < a.length := by omega
      have hib : i < b.length := by omega
      by_cases e1 : a[i].length = c[i].length
      · by_cases e2 : b[i].length = c[i].length
        · simp [go_sem, g0, g1, g2, g10, hi, hia, hib, e1, e2, show i < 1000000000 by omega]
        · simp [go_sem, g0, g1, g2, g10, hi, hia, hib, e1, e2, Int.ofNat_inj, Ne.symm e2, show i < 1000000000 by omega]
      · simp [go_sem, g0, g1, g2, g10, hi, hia, hib, e1, Int.ofNat_inj, Ne.symm e1, show i < 1000000000 by omega])
    (fun s st h => by
      obtain ⟨tm, H, b⟩ := st
      simp only [bodyOf, Go.Proofs.Try.f165, Option.getD_some, loopsOf, rangesOf, List.nil_append, List.append_nil, List.cons_append, List.getElem?_cons_zero, List.getElem?_cons_succ]
      simp only [go_sem] at h
      obtain ⟨g0, g1, g2, g10, rfl, rfl⟩ := h
      simp [go_sem, g0, g1, g2, g10])
    (fun _ h => by cases h)
  simp only [bodyOf, Go.Proofs.Try.f165, Option.getD_some, loopsOf, rangesOf, List.nil_append, List.append_nil, List.cons_append, List.getElem?_cons_zero, List.getElem?_cons_succ] at hR
  have hf : foldE (ρ := Unit) (fun i (_ : Unit) x => if some x.length = (a[i]?).map List.length ∧ some x.length = (b[i]?).map List.length then .inl () else .inr ()) 0 () c = if a.map List.length = c.map List.length ∧ b.map List.length = c.map List.length then .inl () else .inr () := by
    have key : ∀ (l : Img) (i : Nat), l.length + i = a.length → l.length + i = b.length → foldE (ρ := Unit) (fun i (_ : Unit) x => if some x.length = (a[i]?).map List.length ∧ some x.length = (b[i]?).map List.length then .inl () else .inr ()) i () l = if (a.drop i).map List.length = l.map List.length ∧ (b.drop i).map List.length = l.map List.length then .inl () else .inr () := by
      intro l
      induction l with
      | nil => intro i h1 h2; simp at h1 h2; simp [foldE, List.drop_of_length_le (show a.length ≤ i by omega), List.drop_of_length_le (show b.length ≤ i by omega)]
      | cons x l ih =>
        intro i h1 h2
        simp only [List.length_cons] at h1 h2
        have p1 : i < a.length := by omega
        have p2 : i < b.length := by omega
        simp only [foldE, List.getElem?_eq_getElem p1, List.getElem?_eq_getElem p2, Option.map_some, Option.some.injEq]
        rw [List.drop_eq_getElem_cons p1, List.drop_eq_getElem_cons p2]
        simp only [List.map_cons, List.cons.injEq]
        by_cases e1 : x.length = a[i].length
        · by_cases e2 : x.length = b[i].length
          · rw [if_pos ⟨e1, e2⟩]
            simp only
            rw [ih (i + 1) (by omega) (by omega)]
            simp only [← e1, ← e2, true_and]
          · rw [if_neg (fun h => e2 h.2), if_neg (fun h => e2 h.2.1.symm)]
        · rw [if_neg (fun h => e1 h.1), if_neg (fun h => e1 h.1.1.symm)]
    have := key c 0 (by omega) (by omega)
    simpa using this
  rw [hf] at hR
  by_cases hs : a.map List.length = c.map List.length ∧ b.map List.length = c.map List.length
  · simp [go_sem, hs] at hR
    simp [go_sem, h26a, h26b, h26c, mThree, h0, h1, h2, l1, l2, hs, hR]
  · simp only [hs, if_false] at hR
    simp [go_sem] at hR
    simp [go_sem, h26a, h26b, h26c, mThree, h0, h1, h2, l1, l2, hs, hR]
end Go.Proofs.Ytlphdiccffnckaa

