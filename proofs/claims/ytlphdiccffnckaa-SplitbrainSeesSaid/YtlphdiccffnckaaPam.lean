/- Texts put together: Iml, Imm, Imo. -/
import Derived.Test.YtlphdiccffnckaaPal

/- Layer 7: Same, Patch. -/
namespace Go.Proofs.Ytlphdiccffnckaa
open Go Go.Abs

theorem f38_spec (a b : Vol) (hl : a.length < 1000000000) (Y : List YF) : callS ev fs 38 [zVol a, zVol b] [] Y = some (.ret (zB (decide (a = b))), []) := by
  refine callS_by f38_eq rfl ?_
  simp only [bodyOf, Go.Proofs.Try.f38, Option.getD_some]
  by_cases h1 : a.length ≠ b.length
  · have hm : ¬ a = b := fun h => h1 (by rw [h])
    simp [go_sem, h1, hm, Int.ofNat_inj]
  replace h1 : a.length = b.length := by omega
  obtain ⟨R, hR⟩ := fold_loop (E := ev) (C := callS ev fs) (Y := Y) (w := {}) (a := (loopsOf (bodyOf Go.Proofs.Try.f38))[0]?.getD .skip) (b := 0) 
    a (fun i (_ : Unit) x => if some x = b[i]? then .inl () else .inr ()) () (ex := fun _ => .ret)
    (fun i _ => Live [(0, zVol a), (1, zVol b), (12, zI a.length), (13, zI i)] [] 0) (fun _ => Live [] [] 0) (fun _ => Live [(4, zB false)] [] 0)
    (fun i s st hi h => by
      obtain ⟨tm, H, b⟩ := st
      simp only [bodyOf, Go.Proofs.Try.f38, Option.getD_some, loopsOf, rangesOf, List.nil_append, List.append_nil, List.cons_append, List.getElem?_cons_zero, List.getElem?_cons_succ]
      simp only [go_sem] at h
      obtain ⟨h0, h1', h12, h13, rfl, rfl⟩ := h
      have hib : i < b.length := by omega
      by_cases hp : a[i] = b[i] <;> simp [go_sem, h0, h1', h12, h13, hi, hib, hp, show i < 1000000000 by omega])
    (fun s st h => by
      obtain ⟨tm, H, b⟩ := st
      simp only [bodyOf, Go.Proofs.Try.f38, Option.getD_some, loopsOf, rangesOf, List.nil_append, List.append_nil, List.cons_append, List.getElem?_cons_zero, List.getElem?_cons_succ]
      simp only [go_sem] at h
      obtain ⟨h0, h1', h12, h13, rfl, rfl⟩ := h
      simp [go_sem, h12, h13])
    (fun _ h => by cases h)
  simp only [bodyOf, Go.Proofs.Try.f38, Option.getD_some, loopsOf, rangesOf, List.nil_append, List.append_nil, List.cons_append, List.getElem?_cons_zero, List.getElem?_cons_succ] at hR
  rw [foldE_eq b a 0 (by omega), List.drop_zero] at hR
  by_cases hab : a = b
  · simp [go_sem, hab] at hR
    simp [go_sem, hab, hR]
  · simp [go_sem, hab] at hR
    simp [go_sem, hab, h1, hR]

theorem f108_spec (a b : Img) (hl : a.length < 1000000000) (hx : ∀ x ∈ a, x.length < 1000000000) (Y : List YF) : callS ev fs 108 [zImg a, zImg b, .fn 38 []] [] Y = some (.ret (zB (decide (a = b))), []) := by
  refine callS_by f108_eq rfl ?_
  simp only [bodyOf, Go.Proofs.Try.f108, Option.getD_some]
  by_cases h1 : a.length ≠ b.length
  · have hm : ¬ a = b := fun h => h1 (by rw [h])
    simp [go_sem, h1, hm, Int.ofNat_inj]
  replace h1 : a.length = b.length := by omega
  obtain ⟨R, hR⟩ := fold_loop (E := ev) (C := callS ev fs) (Y := Y) (w := {}) (a := (loopsOf (bodyOf Go.Proofs.Try.f108))[0]?.getD .skip) (b := 0) 
    a (fun i (_ : Unit) x => if some x = b[i]? then .inl () else .inr ()) () (ex := fun _ => .ret)
    (fun i _ => Live [(1, zImg b), (2, .fn 38 []), (15, zImg a), (16, zI a.length), (17, zI i)] [] 0) (fun _ => Live [] [] 0) (fun _ => Live [(6, zB false)] [] 0)
    (fun i s st hi h => by
      obtain ⟨tm, H, b⟩ := st
      simp only [bodyOf, Go.Proofs.Try.f108, Option.getD_some, loopsOf, rangesOf, List.nil_append, List.append_nil, List.cons_append, List.getElem?_cons_zero, List.getElem?_cons_succ]
      simp only [go_sem] at h
      obtain ⟨h1', h2, h15, h16, h17, rfl, rfl⟩ := h
      have hib : i < b.length := by omega
      have hc := f38_spec a[i] b[i] (hx _ (List.getElem_mem hi)) []
      simp only [go_sem] at hc
      by_cases hp : a[i] = b[i]
      · simp [hp] at hc
        simp [go_sem, h1', h2, h15, h16, h17, hi, hib, hp, hc, show i < 1000000000 by omega]
      · simp [hp] at hc
        simp [go_sem, h1', h2, h15, h16, h17, hi, hib, hp, hc])
    (fun s st h => by
      obtain ⟨tm, H, b⟩ := st
      simp only [bodyOf, Go.Proofs.Try.f108, Option.getD_some, loopsOf, rangesOf, List.nil_append, List.append_nil, List.cons_append, List.getElem?_cons_zero, List.getElem?_cons_succ]
      simp only [go_sem] at h
      obtain ⟨h1', h2, h15, h16, h17, rfl, rfl⟩ := h
      simp [go_sem, h16, h17])
    (fun _ h => by cases h)
  simp only [bodyOf, Go.Proofs.Try.f108, Option.getD_some, loopsOf, rangesOf, List.nil_append, List.append_nil, List.cons_append, List.getElem?_cons_zero, List.getElem?_cons_succ] at hR
  rw [foldE_eq b a 0 (by omega), List.drop_zero] at hR
  by_cases hab : a = b
  · simp [go_sem, hab] at hR
    simp [go_sem, hab, hR]
  · simp [go_sem, hab] at hR
    simp [go_sem, hab, h1, hR]

theorem f42_spec (a b : Img) (hl : a.length < 1000000000) (hx : ∀ x ∈ a, x.length < 1000000000) (Y : List YF) : callS ev fs 42 [zImg a, zImg b] [] Y = some (.ret (zB (decide (a = b))), []) := by
  refine callS_by f42_eq rfl ?_
  simp only [bodyOf, Go.Proofs.Try.f42, Option.getD_some]
  have h := f108_spec a b hl hx []
  simp only [go_sem] at h
  simp [go_sem, h]

theorem f109_spec (a b : Vol) (hl : a.length < 1000000000) (Y : List YF) : callS ev fs 109 [zVol a, zVol b] [] Y = some (.ret (zB (decide (a = b))), []) := by
  refine callS_by f109_eq rfl ?_
  simp only [bodyOf, Go.Proofs.Try.f109, Option.getD_some]
  by_cases h1 : a.length ≠ b.length
  · have hm : ¬ a = b := fun h => h1 (by rw [h])
    simp [go_sem, h1, hm, Int.ofNat_inj]
  replace h1 : a.length = b.length := by omega
  obtain ⟨R, hR⟩ := fold_loop (E := ev) (C := callS ev fs) (Y := Y) (w := {}) (a := (loopsOf (bodyOf Go.Proofs.Try.f109))[0]?.getD .skip) (b := 0) 
    a (fun i (_ : Unit) x => if some x = b[i]? then .inl () else .inr ()) () (ex := fun _ => .ret)
    (fun i _ => Live [(0, zVol a), (1, zVol b), (5, zI i)] [] 0) (fun _ => Live [] [] 0) (fun _ => Live [(4, zB false)] [] 0)
    (fun i s st hi h => by
      obtain ⟨tm, H, b⟩ := st
      simp only [bodyOf, Go.Proofs.Try.f109, Option.getD_some, loopsOf, rangesOf, List.nil_append, List.append_nil, List.cons_append, List.getElem?_cons_zero, List.getElem?_cons_succ]
      simp only [go_sem] at h
      obtain ⟨h0, h1', h5, rfl, rfl⟩ := h
      have hib : i < b.length := by omega
      by_cases hp : a[i] = b[i] <;> simp [go_sem, h0, h1', h5, hi, hib, hp, show i < 1000000000 by omega])
    (fun s st h => by
      obtain ⟨tm, H, b⟩ := st
      simp only [bodyOf, Go.Proofs.Try.f109, Option.getD_some, loopsOf, rangesOf, List.nil_append, List.append_nil, List.cons_append, List.getElem?_cons_zero, List.getElem?_cons_succ]
      simp only [go_sem] at h
      obtain ⟨h0, h1', h5, rfl, rfl⟩ := h
      simp [go_sem, h0, h1', h5])
    (fun _ h => by cases h)
  simp only [bodyOf, Go.Proofs.Try.f109, Option.getD_some, loopsOf, rangesOf, List.nil_append, List.append_nil, List.cons_append, List.getElem?_cons_zero, List.getElem?_cons_succ] at hR
  rw [foldE_eq b a 0 (by omega), List.drop_zero] at hR
  by_cases hab : a = b
  · simp [go_sem, hab] at hR
    simp [go_sem, hab, hR]
  · simp [go_sem, hab] at hR
    simp [go_sem, hab, h1, hR]

theorem f43_eq : fs 43 = some (mkFn {} Go.Proofs.Try.f43 (bodyOf Go.Proofs.Try.f43)) := by kernel_rfl
/-- The same writes are found to be the same. -/
theorem f43_same (l : List Wr) (hl : l.length < 1000000000) (hx : ∀ w ∈ l, w.d.length < 1000000000) (Y : List YF) : callS ev fs 43 [zWrs l, zWrs l] [] Y = some (.ret (zB true), []) := by
  refine callS_by f43_eq rfl ?_
  simp only [bodyOf, Go.Proofs.Try.f43, Option.getD_some]
  obtain ⟨R, hR⟩ := fold_loop (E := ev) (C := callS ev fs) (Y := Y) (w := {}) (a := (loopsOf (bodyOf Go.Proofs.Try.f43))[0]?.getD .skip) (b := 0) 
    l (fun _ (_ : Unit) (_ : Wr) => .inl ()) () (ex := fun (r : Empty) => nomatch r)
    (fun i _ => Live [(0, zWrs l), (1, zWrs l), (5, zI i)] [] 0) (fun _ => Live [] [] 0) (fun r => nomatch r)
    (fun i s st hi h => by
      obtain ⟨tm, H, b⟩ := st
      simp only [bodyOf, Go.Proofs.Try.f43, Option.getD_some, loopsOf, rangesOf, List.nil_append, List.append_nil, List.cons_append, List.getElem?_cons_zero, List.getElem?_cons_succ]
      simp only [go_sem] at h
      obtain ⟨h0, h1', h5, rfl, rfl⟩ := h
      have hc := f109_spec l[i].d l[i].d (hx _ (List.getElem_mem hi)) []
      simp only [go_sem, decide_true] at hc
      simp [go_sem, h0, h1', h5, hi, hc, show i < 1000000000 by omega])
    (fun s st h => by
      obtain ⟨tm, H, b⟩ := st
      simp only [bodyOf, Go.Proofs.Try.f43, Option.getD_some, loopsOf, rangesOf, List.nil_append, List.append_nil, List.cons_append, List.getElem?_cons_zero, List.getElem?_cons_succ]
      simp only [go_sem] at h
      obtain ⟨h0, h1', h5, rfl, rfl⟩ := h
      simp [go_sem, h0, h1', h5])
    (fun r => nomatch r)
  simp only [bodyOf, Go.Proofs.Try.f43, Option.getD_some, loopsOf, rangesOf, List.nil_append, List.append_nil, List.cons_append, List.getElem?_cons_zero, List.getElem?_cons_succ] at hR
  rw [show (fun (_ : Nat) (_ : Unit) (_ : Wr) => (Sum.inl () : Unit ⊕ Empty)) = fun _ s x => Sum.inl ((fun (s : Unit) (_ : Wr) => s) s x) from rfl, foldE_fold] at hR
  simp [go_sem] at hR
  simp [go_sem, hR]
theorem f43_nil' : callN ev fs 10 43 [.sc (.slice none 0 0), .sc (.slice none 0 0)] [] [] = some (.ret (zB true), []) := by kernel_rfl
theorem f43_nil : callS ev fs 43 [.sc (.slice none 0 0), .sc (.slice none 0 0)] [] [] = some (.ret (zB true), []) := callS_iff.2 ⟨10, f43_nil'⟩
end Go.Proofs.Ytlphdiccffnckaa

/- Layer 7: Patch. -/
namespace Go.Proofs.Ytlphdiccffnckaa
open Go Go.Abs

def wrOf (i : Nat) (vb : Vol) (x : Ext) : Wr := ⟨i, x.s, (vb.drop x.s.toNat).take x.n.toNat⟩
def okExtAt (vb : Vol) (x : Ext) : Prop := 0 ≤ x.s ∧ 1 ≤ x.n ∧ x.s + x.n ≤ vb.length

theorem bareRet_vol (v : Vol) : bareRet [.own 1 8 (v.map secRow)] (.os 0 0 v.length 1) = some (.sl false 8 (v.map secRow)) := by
  unfold bareRet
  rw [if_neg (by simp [AV.pure]), freeze_os]
  simp [pureLL_map secRow_pure, AV.pure, take_map_len]
theorem f107_spec (i : Nat) (b : Img) (hi : i < b.length) (x : Ext) (hx : okExtAt b[i] x) (hbl : b[i].length < 100000000) (H : List Ent) (k9 k3 : Nat) (h9 : H[k9]? = some (.box [zI i])) (h3 : H[k3]? = some (.box [zImg b])) (Y : List YF) :
    callS ev fs 107 [.agg (extRow x), .bp k9 0, .bp k3 0] H Y = some (.ret (.agg (wrRow (wrOf i b[i] x))), H) := by
  obtain ⟨s, n⟩ := x
  obtain ⟨q1, q2, q3⟩ := hx
  simp only at q1 q2 q3
  obtain ⟨s, rfl⟩ : ∃ m : Nat, s = m := ⟨s.toNat, by omega⟩
  obtain ⟨n, rfl⟩ : ∃ m : Nat, n = m := ⟨n.toNat, by omega⟩
  have hlt9 := (List.getElem?_eq_some_iff.1 h9).1
  have hlt3 := (List.getElem?_eq_some_iff.1 h3).1
  have g9 := fun B => get_app (B := B) h9
  have g3 := fun B => get_app (B := B) h3
  have e9 := fun B hk => getE (g9 B) hk
  have e3 := fun B hk => getE (g3 B) hk
  have hc := f103_spec ((b[i].drop s).take n) [] (by
    intro h
    have := congrArg List.length h
    simp at this
    omega) (by simp; omega) []
  have hlen : ((b[i].drop s).take n).length = n := by simp; omega
  have hbr := bareRet_vol ((b[i].drop s).take n)
  rw [hlen] at hc hbr
  have hw := wrap64 (x := (s : Int) + n) (by omega)
  simp only [go_sem, List.map_take, List.map_drop, List.length_nil, List.nil_append] at hc hbr g9 g3 e9 e3
  refine callS_by f107_eq rfl ?_
  simp only [bodyOf, Go.Proofs.Try.f107, Option.getD_some]
  simp [go_sem, g9, g3, e9, e3, hi, hw, hc, hbr, wrOf, show ((s : Int) + n).toNat = s + n by omega, show s + n ≤ b[i].length by omega, show (0 : Int) ≤ (s : Int) + n by omega, show ¬ H.length + 1 < H.length by omega]

theorem take_at {H1 H : List Ent} {K : Nat} (h : H1.take K = H) (hK : K ≤ H1.length) (B : List Ent) (e : Ent) : ((H1 ++ B).set K e).take K = H := by
  rw [List.take_set, List.set_eq_of_length_le (List.length_take_le _ _), List.take_append_of_le_length hK, h]
theorem set_at {H1 : List Ent} {K : Nat} (hK : K < H1.length) (B : List Ent) (e : Ent) : ((H1 ++ B).set K e)[K]? = some e := by
  rw [List.getElem?_set_self (by simp; omega)]
theorem below_at {H1 H : List Ent} {K k : Nat} {e : Ent} (h : H1.take K = H) (hk : H[k]? = some e) (hlt : k < K) : H1[k]? = some e := by
  rw [← h, List.getElem?_take, if_pos hlt] at hk
  exact hk

theorem f106_spec (i : Nat) (b : Img) (hi : i < b.length) (l : List Ext) (hx : ∀ x ∈ l, okExtAt b[i] x) (hbl : b[i].length < 100000000) (hll : l.length < 100000000) (H : List Ent) (k9 k3 : Nat) (h9 : H[k9]? = some (.box [zI i])) (h3 : H[k3]? = some (.box [zImg b])) (Y : List YF) :
    callS ev fs 106 [zExts l, .fn 107 [.bp k9 0, .bp k3 0]] H Y = some (.ret (zWrs (l.map (wrOf i b[i]))), H) := by
  have hlt9 := (List.getElem?_eq_some_iff.1 h9).1
  have hlt3 := (List.getElem?_eq_some_iff.1 h3).1
  refine callS_by f106_eq rfl ?_
  simp only [bodyOf, Go.Proofs.Try.f106, Option.getD_some]
  have hroom : room l.length 40 = true := room_ok (by omega) (by omega) (by omega)
  obtain ⟨R, hR⟩ := fold_loop (E := ev) (C := callS ev fs) (Y := Y) (w := w106) (a := (loopsOf (bodyOf Go.Proofs.Try.f106))[0]?.getD .skip) (b := 0) 
    l (fun _ s x => .inl (s ++ [wrOf i b[i] x])) ([] : List Wr) (ex := fun (r : Empty) => nomatch r)
    (fun j s st => (s.length = j ∧ st.H[H.length]? = some (.own j 3 (s.map wrRow)) ∧ st.H.take H.length = H) ∧ LiveT [(1, .fn 107 [.bp k9 0, .bp k3 0]), (5, .os H.length 0 j j), (11, zExts l), (12, zI l.length), (13, zI j)] H.length st)
    (fun s st => (st.H[H.length]? = some (.own l.length 3 (s.map wrRow)) ∧ st.H.take H.length = H) ∧ LiveT [(5, .os H.length 0 l.length l.length)] H.length st) (fun r => nomatch r)
    (fun j s st hj h => by
      obtain ⟨⟨rfl, hK, hT⟩, h⟩ := h
      obtain ⟨tm, H1, b1⟩ := st
      simp only [bodyOf, Go.Proofs.Try.f106, Option.getD_some, loopsOf, rangesOf, List.nil_append, List.append_nil, List.cons_append, List.getElem?_cons_zero, List.getElem?_cons_succ]
      simp only [go_sem] at h
      simp only at hK hT
      obtain ⟨g1, g5, g11, g12, g13, rfl⟩ := h
      have hKl := (List.getElem?_eq_some_iff.1 hK).1
      have gK := fun B => get_app (B := B) hK
      have eK := fun B hk => getE (gK B) hk
      have h107 := fun B => f107_spec i b hi l[s.length] (hx _ (List.getElem_mem hj)) hbl (H1 ++ B) k9 k3 (get_app (below_at hT h9 hlt9)) (get_app (below_at hT h3 hlt3)) Y
      have hr : room (s.length + 1) 40 = true := room_ok (by omega) (by omega) (by omega)
      have t1 := take_at hT (Nat.le_of_lt hKl)
      have t2 := set_at hKl
      generalize wrOf i b[i] l[s.length] = w at h107 ⊢
      simp only [go_sem] at h107
      simp [go_sem, g1, g5, g11, g12, g13, hj, gK, eK, h107, hr, t1, t2, show ¬ H1.length < H.length by omega, show s.length < 1000000000 by omega])
    (fun s st h => by
      obtain ⟨⟨_, hK, hT⟩, h⟩ := h
      obtain ⟨tm, H, b⟩ := st
      simp only [bodyOf, Go.Proofs.Try.f106, Option.getD_some, loopsOf, rangesOf, List.nil_append, List.append_nil, List.cons_append, List.getElem?_cons_zero, List.getElem?_cons_succ]
      simp only [go_sem] at h
      obtain ⟨g1, g5, g11, g12, g13, rfl⟩ := h
      simp only at hK hT
      simp [go_sem, g5, g12, g13, hK, hT])
    (fun r => nomatch r)
  simp only [bodyOf, Go.Proofs.Try.f106, Option.getD_some, loopsOf, rangesOf, List.nil_append, List.append_nil, List.cons_append, List.getElem?_cons_zero, List.getElem?_cons_succ] at hR
  rw [foldE_map] at hR
  simp [go_sem] at hR
  simp [go_sem, freeze_os, hR, hroom, show l.length ≤ 1099511627776 by omega]

def patchF (b : Img) (i : Nat) (out : List Wr) (l : List Ext) : List Wr ⊕ Empty := .inl (out ++ l.map (wrOf i ((b[i]?).getD [])))
def mPatch (a b : Img) : List Wr := match foldE (patchF b) 0 [] (List.zipWith mExt a b) with
  | .inl s => s
def zPatch (a b : Img) : AV := if mPair a b = 0 then .tup [zWrs (mPatch a b), zI 0] else .tup [.sc (.slice none 0 0), zI (mPair a b)]

theorem mExt_ok {va vb : Vol} (h : va.length = vb.length) : ∀ x ∈ mExt va vb, okExtAt vb x := by
  unfold mExt
  cases hf : foldE (ρ := Empty) (diffF extStep vb) 0 [] va with
  | inl s =>
    have := (mExt_bound va vb va 0 [] s (by intro x hx; simp at hx) (by simp) hf).1
    intro x hx
    have := this x hx
    simp only [Nat.zero_add, h] at this
    exact this
  | inr r => exact nomatch r
theorem patch_split (a b : Img) : foldE (patchF b) 0 [] (List.zipWith mExt a b) = .inl (mPatch a b) := by
  unfold mPatch
  cases foldE (patchF b) 0 [] (List.zipWith mExt a b) with
  | inl s => rfl
  | inr r => exact nomatch r

theorem f40_spec (a b : Img) (ha : a.length < 100000000) (hb : b.length < 100000000) (Y : List YF) : callS ev fs 40 [zImg a, zImg b] [] Y = some (.ret (zPatch a b), []) := by
  refine callS_by f40_eq rfl ?_
  simp only [bodyOf, Go.Proofs.Try.f40, Option.getD_some]
  have h34 := f34_spec a b ha hb []
  by_cases h0 : ¬ mPair a b = 0
  · simp only [go_sem, zDiffer, h0, if_false] at h34
    simp [go_sem, h34, h0, zPatch]
  replace h0 : mPair a b = 0 := Decidable.not_not.1 h0
  obtain ⟨q1, q2, q3⟩ := mPair_zero h0
  have hal := (mCheck_zero q1).2.2
  have hl := sizes_len q3
  simp only [zDiffer, h0, if_true] at h34
  have hzl : (List.zipWith mExt a b).length = a.length := by simp; omega
  have hz : ∀ i (h1 : i < (List.zipWith mExt a b).length) (h2 : i < b.length), (∀ x ∈ (List.zipWith mExt a b)[i], okExtAt b[i] x) ∧ (List.zipWith mExt a b)[i].length ≤ 4096 ∧ b[i].length ≤ 4096 := fun i h1 h2 => by
    have h3 : i < a.length := by omega
    rw [List.getElem_zipWith]
    have h4 := sizes_get q3 h3 h2
    have h5 := (hal _ (List.getElem_mem h3)).2
    have h6 := mExt_len a[i] b[i]
    exact ⟨mExt_ok h4, by omega, by omega⟩
  have hps := patch_split a b
  generalize mPatch a b = W at hps
  have hW : zPatch a b = .tup [zWrs W, zI 0] := by
    have : mPatch a b = W := by unfold mPatch; rw [hps]
    unfold zPatch
    rw [if_pos h0, this]
  rw [hW]
  generalize List.zipWith mExt a b = Z at h34 hzl hz hps
  have hZl : Z.length ≤ 8 := by have := (mCheck_zero q1).2.1; omega
  obtain ⟨R, hR⟩ := fold_loop (E := ev) (C := callS ev fs) (Y := Y) (w := w40) (a := (loopsOf (bodyOf Go.Proofs.Try.f40))[0]?.getD .skip) (b := 0) 
    Z (patchF b) ([] : List Wr) (ex := fun (r : Empty) => nomatch r)
    (fun i out st => (out.length ≤ i * 4096 ∧ st.H[0]? = some (.box [zImg b]) ∧ st.H[1]? = some (.own i 3 (out.map wrRow))) ∧ LiveT [(3, .bp 0 0), (8, .os 1 0 out.length i), (20, zExtss Z), (21, zI Z.length), (22, zI i)] 0 st)
    (fun out st => (st.H[1]? = some (.own Z.length 3 (out.map wrRow))) ∧ LiveT [(8, .os 1 0 out.length Z.length)] 0 st) (fun r => nomatch r)
    (fun i out st hi h => by
      obtain ⟨⟨ho, hH0, hH1⟩, h⟩ := h
      obtain ⟨tm, H, b⟩ := st
      simp only [bodyOf, Go.Proofs.Try.f40, Option.getD_some, loopsOf, rangesOf, List.nil_append, List.append_nil, List.cons_append, List.getElem?_cons_zero, List.getElem?_cons_succ]
      simp only [go_sem] at h
      obtain ⟨g3, g8, g20, g21, g22, rfl⟩ := h
      simp only at hH0 hH1
      have hib : i < b.length := by omega
      obtain ⟨z1, z2, z3⟩ := hz i hi hib
      have hl1 := (List.getElem?_eq_some_iff.1 hH1).1
      have k0 := fun B => get_app (B := B) hH0
      have k1 := fun B => get_app (B := B) hH1
      have e0 := fun B hk => getE (k0 B) hk
      have e1 := fun B hk => getE (k1 B) hk
      have hlast : ∀ e, (H ++ [e])[H.length]? = some e := fun e => by simp
      have h106 := f106_spec i b hib Z[i] z1 (by omega) (by omega) (H ++ [.box [zI i]]) H.length 0 (hlast _) (k0 _) Y
      have hr : room (out.length + Z[i].length) 40 = true := room_ok (by omega) (by omega) (by omega)
      have hpf : patchF b i out Z[i] = .inl (out ++ Z[i].map (wrOf i b[i])) := by simp [patchF, hib]
      have hln : (out ++ Z[i].map (wrOf i b[i])).length ≤ (i + 1) * 4096 := by simp; omega
      rw [hpf]
      have hml : (Z[i].map (wrOf i b[i])).length = Z[i].length := by simp
      rw [← hml] at hr
      generalize Z[i].map (wrOf i b[i]) = new at h106 hr hln ⊢
      have hse : ∀ B e, ((H ++ B).set 1 e)[0]? = some (.box [zImg b]) := fun B e => by rw [List.getElem?_set_ne (by omega)]; exact k0 B
      have hs1 : ∀ B e, ((H ++ B).set 1 e)[1]? = some e := fun B e => List.getElem?_set_self (by simp; omega)
      have htk : (List.map wrRow out).take out.length = List.map wrRow out := List.take_of_length_le (by simp)
      simp only [go_sem, List.length_append] at h106 hse hln
      simp [go_sem, g3, g8, g20, g21, g22, hi, hib, k0, k1, e0, e1, h106, hr, hse, hs1, hln, htk, show i < 1000000000 by omega])
    (fun out st h => by
      obtain ⟨⟨_, _, hH1⟩, h⟩ := h
      obtain ⟨tm, H, b⟩ := st
      simp only [bodyOf, Go.Proofs.Try.f40, Option.getD_some, loopsOf, rangesOf, List.nil_append, List.append_nil, List.cons_append, List.getElem?_cons_zero, List.getElem?_cons_succ]
      simp only [go_sem] at h
      obtain ⟨g3, g8, g20, g21, g22, rfl⟩ := h
      simp only at hH1
      simp [go_sem, g8, g21, g22, hH1])
    (fun r => nomatch r)
  rw [hps] at hR
  simp only [bodyOf, Go.Proofs.Try.f40, Option.getD_some, loopsOf, rangesOf, List.nil_append, List.append_nil, List.cons_append, List.getElem?_cons_zero, List.getElem?_cons_succ] at hR
  simp [go_sem] at hR
  simp only [go_sem] at h34
  simp [go_sem, freeze_os, h34, hR]
  done
end Go.Proofs.Ytlphdiccffnckaa

/- Layer 7: Patch of the reference; the law ImageDiffers. -/
namespace Go.Proofs.Ytlphdiccffnckaa
open Go Go.Abs

theorem flno : (Fl.non == Fl.own) = false := rfl
theorem f41_spec (a b : Img) (ha : a.length < 100000000) (hb : b.length < 100000000) (Y : List YF) : callS ev fs 41 [zImg a, zImg b] [] Y = some (.ret (zPatch a b), []) := by
  refine callS_by f41_eq rfl ?_
  simp only [bodyOf, Go.Proofs.Try.f41, Option.getD_some]
  have h39 := f39_spec a b ha hb []
  by_cases h0 : ¬ mPair a b = 0
  · simp only [go_sem, zDiffer, h0, if_false] at h39
    simp [go_sem, h39, h0, zPatch]
  replace h0 : mPair a b = 0 := Decidable.not_not.1 h0
  obtain ⟨q1, q2, q3⟩ := mPair_zero h0
  have hal := (mCheck_zero q1).2.2
  have hl := sizes_len q3
  simp only [zDiffer, h0, if_true] at h39
  have hzl : (List.zipWith mExt a b).length = a.length := by simp; omega
  have hz : ∀ i (h1 : i < (List.zipWith mExt a b).length) (h2 : i < b.length), (∀ x ∈ (List.zipWith mExt a b)[i], okExtAt b[i] x) ∧ (List.zipWith mExt a b)[i].length ≤ 4096 ∧ b[i].length ≤ 4096 := fun i h1 h2 => by
    have h3 : i < a.length := by omega
    rw [List.getElem_zipWith]
    have h4 := sizes_get q3 h3 h2
    have h5 := (hal _ (List.getElem_mem h3)).2
    have h6 := mExt_len a[i] b[i]
    exact ⟨mExt_ok h4, by omega, by omega⟩
  have hps := patch_split a b
  generalize mPatch a b = W at hps
  have hW : zPatch a b = .tup [zWrs W, zI 0] := by
    have : mPatch a b = W := by unfold mPatch; rw [hps]
    unfold zPatch
    rw [if_pos h0, this]
  rw [hW]
  generalize List.zipWith mExt a b = Z at h39 hzl hz hps
  have hZl : Z.length ≤ 8 := by have := (mCheck_zero q1).2.1; omega
  obtain ⟨R, hR⟩ := fold_loop (E := ev) (C := callS ev fs) (Y := Y) (w := w41) (a := (loopsOf (bodyOf Go.Proofs.Try.f41))[0]?.getD .skip) (b := 0) 
    Z (patchF b) ([] : List Wr) (ex := fun (r : Empty) => nomatch r)
    (fun i out st => (out.length ≤ i * 4096 ∧ st.H[0]? = some (.own out.length 3 (out.map wrRow))) ∧ LiveT [(1, zImg b), (6, zExtss Z), (8, .os 0 0 out.length out.length), (9, zI i)] 0 st)
    (fun out st => (st.H[0]? = some (.own out.length 3 (out.map wrRow))) ∧ LiveT [(8, .os 0 0 out.length out.length)] 0 st) (fun r => nomatch r)
    (fun i out st hi h => by
      obtain ⟨⟨ho, hH0⟩, h⟩ := h
      obtain ⟨tm, H, b⟩ := st
      simp only [bodyOf, Go.Proofs.Try.f41, Option.getD_some, loopsOf, rangesOf, List.nil_append, List.append_nil, List.cons_append, List.getElem?_cons_zero, List.getElem?_cons_succ]
      simp only [go_sem] at h
      obtain ⟨g1, g6, g8, g9, rfl⟩ := h
      simp only at hH0
      have hib : i < b.length := by omega
      obtain ⟨z1, z2, z3⟩ := hz i hi hib
      obtain ⟨R2, hR2⟩ := fold_loop (E := ev) (C := callS ev fs) (Y := Y) (w := w41) (a := (loopsOf (bodyOf Go.Proofs.Try.f41))[1]?.getD .skip) (b := 2) 
        Z[i] (fun _ o x => .inl (o ++ [wrOf i b[i] x])) out (ex := fun (r : Empty) => nomatch r)
        (fun j o st => (o.length = out.length + j ∧ st.H[0]? = some (.own o.length 3 (o.map wrRow))) ∧ LiveT [(1, zImg b), (6, zExtss Z), (8, .os 0 0 o.length o.length), (9, zI i), (10, zI j)] 0 st)
        (fun o st => (o.length = out.length + Z[i].length ∧ st.H[0]? = some (.own o.length 3 (o.map wrRow))) ∧ LiveT [(1, zImg b), (6, zExtss Z), (8, .os 0 0 o.length o.length), (9, zI i)] 0 st) (fun r => nomatch r)
        (fun j o st hj h => by
          obtain ⟨⟨hol, hH⟩, h⟩ := h
          obtain ⟨tm, H, b⟩ := st
          simp only [bodyOf, Go.Proofs.Try.f41, Option.getD_some, loopsOf, rangesOf, List.nil_append, List.append_nil, List.cons_append, List.getElem?_cons_zero, List.getElem?_cons_succ]
          simp only [go_sem] at h
          obtain ⟨p1, p6, p8, p9, p10, rfl⟩ := h
          simp only at hH
          have hx := z1 _ (List.getElem_mem hj)
          have hl1 := (List.getElem?_eq_some_iff.1 hH).1
          have k0 := fun B => get_app (B := B) hH
          have e0 := fun B hk => getE (k0 B) hk
          have hr : room (o.length + 1) 40 = true := room_ok (by omega) (by omega) (by omega)
          have hs0 : ∀ B e, ((H ++ B).set 0 e)[0]? = some e := fun B e => List.getElem?_set_self (by simp; omega)
          have htk : (List.map wrRow o).take o.length = List.map wrRow o := List.take_of_length_le (by simp)
          rw [hol] at hr htk
          generalize hxe : Z[i][j] = x at hx
          obtain ⟨s, n⟩ := x
          obtain ⟨x1, x2, x3⟩ := hx
          simp only at x1 x2 x3
          obtain ⟨s, rfl⟩ : ∃ m : Nat, s = m := ⟨s.toNat, by omega⟩
          obtain ⟨n, rfl⟩ : ∃ m : Nat, n = m := ⟨n.toNat, by omega⟩
          have hw := wrap64 (x := (s : Int) + n) (by omega)
          have hr2 : room n 8 = true := room_ok (by omega) (by omega) (by omega)
          have hmin : min n (b[i].length - s) = n := by omega
          simp [go_sem, p1, p6, p8, p9, p10, hi, hib, hj, hxe, k0, e0, hw, hr, hr2, hmin, hs0, htk, hol, wrOf, flno, show ((s : Int) + n).toNat = s + n by omega, show s + n ≤ b[i].length by omega, show (0 : Int) ≤ (s : Int) + n by omega, show j < 1000000000 by omega]
          omega)
        (fun o st h => by
          obtain ⟨⟨hol, hH⟩, h⟩ := h
          obtain ⟨tm, H, b⟩ := st
          simp only [bodyOf, Go.Proofs.Try.f41, Option.getD_some, loopsOf, rangesOf, List.nil_append, List.append_nil, List.cons_append, List.getElem?_cons_zero, List.getElem?_cons_succ]
          simp only [go_sem] at h
          obtain ⟨p1, p6, p8, p9, p10, rfl⟩ := h
          simp only at hH
          simp [go_sem, p1, p6, p8, p9, p10, hi, hH, hol])
        (fun r => nomatch r)
      simp only [bodyOf, Go.Proofs.Try.f41, Option.getD_some, loopsOf, rangesOf, List.nil_append, List.append_nil, List.cons_append, List.getElem?_cons_zero, List.getElem?_cons_succ] at hR2
      rw [foldE_map] at hR2
      have hpf : patchF b i out Z[i] = .inl (out ++ Z[i].map (wrOf i b[i])) := by simp [patchF, hib]
      rw [hpf]
      simp [go_sem] at hR2
      simp [go_sem, g1, g6, g8, g9, hi, hH0, hR2, show i < 1000000000 by omega, show out.length + Z[i].length ≤ (i + 1) * 4096 by omega])
    (fun out st h => by
      obtain ⟨⟨_, hH0⟩, h⟩ := h
      obtain ⟨tm, H, b⟩ := st
      simp only [bodyOf, Go.Proofs.Try.f41, Option.getD_some, loopsOf, rangesOf, List.nil_append, List.append_nil, List.cons_append, List.getElem?_cons_zero, List.getElem?_cons_succ]
      simp only [go_sem] at h
      obtain ⟨g1, g6, g8, g9, rfl⟩ := h
      simp only at hH0
      simp [go_sem, g6, g8, g9, hH0])
    (fun r => nomatch r)
  rw [hps] at hR
  simp only [bodyOf, Go.Proofs.Try.f41, Option.getD_some, loopsOf, rangesOf, List.nil_append, List.append_nil, List.cons_append, List.getElem?_cons_zero, List.getElem?_cons_succ] at hR
  simp [go_sem] at hR
  simp only [go_sem] at h39
  simp [go_sem, freeze_os, h39, hR]

theorem mPatch_bound (b : Img) : ∀ (Z : List (List Ext)) (i : Nat) (out W : List Wr) (m : Nat), (∀ l ∈ Z, l.length ≤ m) → foldE (patchF b) i out Z = .inl W → W.length ≤ out.length + Z.length * m
  | [], i, out, W, m, _, h => by
    simp only [foldE, Sum.inl.injEq] at h
    rw [← h]; simp
  | l :: Z, i, out, W, m, hm, h => by
    simp only [foldE, patchF] at h
    have := mPatch_bound b Z (i + 1) _ W m (fun l hl => hm l (List.mem_cons_of_mem _ hl)) h
    have := hm l (List.mem_cons_self ..)
    simp only [List.length_append, List.length_map] at *
    rw [List.length_cons, Nat.add_mul]
    omega
theorem mPatch_data (b : Img) (m : Nat) (hb : ∀ v ∈ b, v.length ≤ m) : ∀ (Z : List (List Ext)) (i : Nat) (out W : List Wr), (∀ w ∈ out, w.d.length ≤ m) → foldE (patchF b) i out Z = .inl W → ∀ w ∈ W, w.d.length ≤ m
  | [], i, out, W, ho, h => by
    simp only [foldE, Sum.inl.injEq] at h
    rw [← h]; exact ho
  | l :: Z, i, out, W, ho, h => by
    simp only [foldE, patchF] at h
    refine mPatch_data b m hb Z (i + 1) _ W (fun w hw => ?_) h
    rcases List.mem_append.1 hw with hw | hw
    · exact ho w hw
    · obtain ⟨x, _, rfl⟩ := List.mem_map.1 hw
      have : ((b[i]?).getD []).length ≤ m := by
        cases hv : b[i]? with
        | none => simp
        | some v => exact hb v (List.mem_of_getElem? hv)
      simp [wrOf]
      omega

theorem f8_spec (a b : Img) (Y : List YF) : callS ev fs 8 [zImg a, zImg b] [] Y = some (.ret (zB true), []) := by
  refine callS_by f8_eq rfl ?_
  simp only [bodyOf, Go.Proofs.Try.f8, Option.getD_some]
  have hw := f22_call
  have h19a := f19_spec a []
  have h19b := f19_spec b []
  simp only [go_sem] at hw h19a h19b
  cases hf : mFew a
  · simp [go_sem, h19a, hf, hw]
  cases hg : mFew b
  · simp [go_sem, h19a, h19b, hf, hg, hw]
  obtain ⟨i1, i2⟩ := few_len hf
  obtain ⟨j1, j2⟩ := few_len hg
  have i3 : ∀ x ∈ a, x.length < 1000000000 := fun x hx => by have := i2 x hx; omega
  have h34 := f34_spec a b (by omega) (by omega) []
  have h39 := f39_spec a b (by omega) (by omega) []
  have h40 := f40_spec a b (by omega) (by omega) []
  have h41 := f41_spec a b (by omega) (by omega) []
  have h42 := f42_spec a b (by omega) i3 []
  have h25 := f25_spec a b (by omega) i3 []
  by_cases h0 : ¬ mPair a b = 0
  · have h35 := f35_nil
    have h43 := f43_nil
    simp only [go_sem, zDiffer, zPatch, h0, if_false] at h34 h39 h40 h41 h42 h25 h35 h43
    simp [go_sem, h19a, h19b, hf, hg, hw, h34, h39, h40, h41, h42, h25, h35, h43]
  replace h0 : mPair a b = 0 := Decidable.not_not.1 h0
  have hZ : ∀ x ∈ List.zipWith mExt a b, x.length ≤ 24 := fun x hx => by
    obtain ⟨i, hi, rfl⟩ := List.getElem_of_mem hx
    simp only [List.length_zipWith] at hi
    rw [List.getElem_zipWith]
    have := mExt_len a[i] b[i]
    have := i2 a[i] (List.getElem_mem _)
    omega
  have hps := patch_split a b
  have hW1 := mPatch_bound b _ 0 [] _ 24 hZ hps
  have hW2 := mPatch_data b 24 j2 _ 0 [] _ (fun w hw => by simp at hw) hps
  have hZl : (List.zipWith mExt a b).length ≤ 9 := by simp; omega
  have h35 := f35_spec (List.zipWith mExt a b) (List.zipWith mExt a b) (by omega) (fun x hx => by have := hZ x hx; omega) []
  have h43 := f43_same (mPatch a b) (by simp only [List.length_nil, Nat.zero_add] at hW1; have : (List.zipWith mExt a b).length * 24 ≤ 9 * 24 := Nat.mul_le_mul_right _ hZl; omega) (fun w hw => by have := hW2 w hw; omega) []
  simp only [zDiffer, zPatch, h0, if_true] at h34 h39 h40 h41
  generalize mPatch a b = W at h40 h41 h43
  generalize List.zipWith mExt a b = Z at h34 h39 h35
  simp only [go_sem, decide_true] at h34 h39 h40 h41 h42 h25 h35 h43
  simp [go_sem, h19a, h19b, hf, hg, hw, h34, h39, h40, h41, h42, h25, h35, h43]
end Go.Proofs.Ytlphdiccffnckaa

