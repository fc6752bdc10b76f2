/- Layer 7: Patch. -/
import Derived.Test.YtlphdiccffnckaaIml
namespace Go.Proofs.Ytlphdiccffnckaa
open Go Go.Abs

def wrOf (i : Nat) (vb : Vol) (x : Ext) : Wr := ⟨i, x.s, (vb.drop x.s.toNat).take x.n.toNat⟩
def okExtAt (vb : Vol) (x : Ext) : Prop := 0 ≤ x.s ∧ 1 ≤ x.n ∧ x.s + x.n ≤ vb.length

theorem bareRet_vol (v : Vol) : bareRet [.own 1 8 (v.map secRow)] (.os 0 0 v.length 1) = some (.sl false 8 (v.map secRow)) := by
  unfold bareRet
  rw [if_neg (by simp [AV.pure]), freeze_os]
  simp [pureLL_map secRow_pure, AV.pure, take_map_len]
theorem f107_spec (i : Nat) (b : Img) (hi : i < b.length) (x : Ext) (hx : okExtAt b[i] x) (hbl : b[i].length < 100000000) (H : List Ent) (k9 k3 : Nat) (h9 : H[k9]? = some (.box [zI i])) (h3 : H[k3]? = some (.box [zImg b])) (Y : List YF) :
    callS ev fs 107 [.agg (extRow x), .bp k9 0, .bp k3 0] H Y = some (.ret (.agg (wrRow (wrOf i b[i] x))), H) := by
  obtain ⟨s, n⟩ := x
  obtain ⟨q1, q2, q3⟩ := hx
  simp only at q1 q2 q3
  obtain ⟨s, rfl⟩ : ∃ m : Nat, s = m := ⟨s.toNat, by omega⟩
  obtain ⟨n, rfl⟩ : ∃ m : Nat, n = m := ⟨n.toNat, by omega⟩
  have hlt9 := (List.getElem?_eq_some_iff.1 h9).1
  have hlt3 := (List.getElem?_eq_some_iff.1 h3).1
  have g9 := fun B => get_app (B := B) h9
  have g3 := fun B => get_app (B := B) h3
  have e9 := fun B hk => getE (g9 B) hk
  have e3 := fun B hk => getE (g3 B) hk
  have hc := f103_spec ((b[i].drop s).take n) [] (by
    intro h
    have := congrArg List.length h
    simp at this
    omega) (by simp; omega) []
  have hlen : ((b[i].drop s).take n).length = n := by simp; omega
  have hbr := bareRet_vol ((b[i].drop s).take n)
  rw [hlen] at hc hbr
  have hw := wrap64 (x := (s : Int) + n) (by omega)
  simp only [go_sem, List.map_take, List.map_drop, List.length_nil, List.nil_append] at hc hbr g9 g3 e9 e3
  refine callS_by f107_eq rfl ?_
  simp only [bodyOf, Go.Proofs.Try.f107, Option.getD_some]
  simp [go_sem, g9, g3, e9, e3, hi, hw, hc, hbr, wrOf, show ((s : Int) + n).toNat = s + n by omega, show s + n ≤ b[i].length by omega, show (0 : Int) ≤ (s : Int) + n by omega, show ¬ H.length + 1 < H.length by omega]

theorem take_at {H1 H : List Ent} {K : Nat} (h : H1.take K = H) (hK : K ≤ H1.length) (B : List Ent) (e : Ent) : ((H1 ++ B).set K e).take K = H := by
  rw [List.take_set, List.set_eq_of_length_le (List.length_take_le _ _), List.take_append_of_le_length hK, h]
theorem set_at {H1 : List Ent} {K : Nat} (hK : K < H1.length) (B : List Ent) (e : Ent) : ((H1 ++ B).set K e)[K]? = some e := by
  rw [List.getElem?_set_self (by simp; omega)]
theorem below_at {H1 H : List Ent} {K k : Nat} {e : Ent} (h : H1.take K = H) (hk : H[k]? = some e) (hlt : k < K) : H1[k]? = some e := by
  rw [← h, List.getElem?_take, if_pos hlt] at hk
  exact hk

theorem f106_spec (i : Nat) (b : Img) (hi : i < b.length) (l : List Ext) (hx : ∀ x ∈ l, okExtAt b[i] x) (hbl : b[i].length < 100000000) (hll : l.length < 100000000) (H : List Ent) (k9 k3 : Nat) (h9 : H[k9]? = some (.box [zI i])) (h3 : H[k3]? = some (.box [zImg b])) (Y : List YF) :
    callS ev fs 106 [zExts l, .fn 107 [.bp k9 0, .bp k3 0]] H Y = some (.ret (zWrs (l.map (wrOf i b[i]))), H) := by
  have hlt9 := (List.getElem?_eq_some_iff.1 h9).1
  have hlt3 := (List.getElem?_eq_some_iff.1 h3).1
  refine callS_by f106_eq rfl ?_
  simp only [bodyOf, Go.Proofs.Try.f106, Option.getD_some]
  have hroom : room l.length 40 = true := room_ok (by omega) (by omega) (by omega)
  obtain ⟨R, hR⟩ := fold_loop (E := ev) (C := callS ev fs) (Y := Y) (w := w106) (a := (loopsOf (bodyOf Go.Proofs.Try.f106))[0]?.getD .skip) (b := 0) 
    l (fun _ s x => .inl (s ++ [wrOf i b[i] x])) ([] : List Wr) (ex := fun (r : Empty) => nomatch r)
    (fun j s st => (s.length = j ∧ st.H[H.length]? = some (.own j 3 (s.map wrRow)) ∧ st.H.take H.length = H) ∧ LiveT [(1, .fn 107 [.bp k9 0, .bp k3 0]), (5, .os H.length 0 j j), (11, zExts l), (12, zI l.length), (13, zI j)] H.length st)
    (fun s st => (st.H[H.length]? = some (.own l.length 3 (s.map wrRow)) ∧ st.H.take H.length = H) ∧ LiveT [(5, .os H.length 0 l.length l.length)] H.length st) (fun r => nomatch r)
    (fun j s st hj h => by
      obtain ⟨⟨rfl, hK, hT⟩, h⟩ := h
      obtain ⟨tm, H1, b1⟩ := st
      simp only [bodyOf, Go.Proofs.Try.f106, Option.getD_some, loopsOf, rangesOf, List.nil_append, List.append_nil, List.cons_append, List.getElem?_cons_zero, List.getElem?_cons_succ]
      simp only [go_sem] at h
      simp only at hK hT
      obtain ⟨g1, g5, g11, g12, g13, rfl⟩ := h
      have hKl := (List.getElem?_eq_some_iff.1 hK).1
      have gK := fun B => get_app (B := B) hK
      have eK := fun B hk => getE (gK B) hk
      have h107 := fun B => f107_spec i b hi l[s.length] (hx _ (List.getElem_mem hj)) hbl (H1 ++ B) k9 k3 (get_app (below_at hT h9 hlt9)) (get_app (below_at hT h3 hlt3)) Y
      have hr : room (s.length + 1) 40 = true := room_ok (by omega) (by omega) (by omega)
      have t1 := take_at hT (Nat.le_of_lt hKl)
      have t2 := set_at hKl
      generalize wrOf i b[i] l[s.length] = w at h107 ⊢
      simp only [go_sem] at h107
      simp [go_sem, g1, g5, g11, g12, g13, hj, gK, eK, h107, hr, t1, t2, show ¬ H1.length < H.length by omega, show s.length < 1000000000 by omega])
    (fun s st h => by
      obtain ⟨⟨_, hK, hT⟩, h⟩ := h
      obtain ⟨tm, H, b⟩ := st
      simp only [bodyOf, Go.Proofs.Try.f106, Option.getD_some, loopsOf, rangesOf, List.nil_append, List.append_nil, List.cons_append, List.getElem?_cons_zero, List.getElem?_cons_succ]
      simp only [go_sem] at h
      obtain ⟨g1, g5, g11, g12, g13, rfl⟩ := h
      simp only at hK hT
      simp [go_sem, g5, g12, g13, hK, hT])
    (fun r => nomatch r)
  simp only [bodyOf, Go.Proofs.Try.f106, Option.getD_some, loopsOf, rangesOf, List.nil_append, List.append_nil, List.cons_append, List.getElem?_cons_zero, List.getElem?_cons_succ] at hR
  rw [foldE_map] at hR
  simp [go_sem] at hR
  simp [go_sem, freeze_os, hR, hroom, show l.length ≤ 1099511627776 by omega]

def patchF (b : Img) (i : Nat) (out : List Wr) (l : List Ext) : List Wr ⊕ Empty := .inl (out ++ l.map (wrOf i ((b[i]?).getD [])))
def mPatch (a b : Img) : List Wr := match foldE (patchF b) 0 [] (List.zipWith mExt a b) with
  | .inl s => s
def zPatch (a b : Img) : AV := if mPair a b = 0 then .tup [zWrs (mPatch a b), zI 0] else .tup [.sc (.slice none 0 0), zI (mPair a b)]

theorem mExt_ok {va vb : Vol} (h : va.length = vb.length) : ∀ x ∈ mExt va vb, okExtAt vb x := by
  unfold mExt
  cases hf : foldE (ρ := Empty) (diffF extStep vb) 0 [] va with
  | inl s =>
    have := (mExt_bound va vb va 0 [] s (by intro x hx; simp at hx) (by simp) hf).1
    intro x hx
    have := this x hx
    simp only [Nat.zero_add, h] at this
    exact this
  | inr r => exact nomatch r
theorem patch_split (a b : Img) : foldE (patchF b) 0 [] (List.zipWith mExt a b) = .inl (mPatch a b) := by
  unfold mPatch
  cases foldE (patchF b) 0 [] (List.zipWith mExt a b) with
  | inl s => rfl
  | inr r => exact nomatch r

theorem f40_spec (a b : Img) (ha : a.length < 100000000) (hb : b.length < 100000000) (Y : List YF) : callS ev fs 40 [zImg a, zImg b] [] Y = some (.ret (zPatch a b), []) := by
  refine callS_by f40_eq rfl ?_
  simp only [bodyOf, Go.Proofs.Try.f40, Option.getD_some]
  have h34 := f34_spec a b ha hb []
  by_cases h0 : ¬ mPair a b = 0
  · simp only [go_sem, zDiffer, h0, if_false] at h34
    simp [go_sem, h34, h0, zPatch]
  replace h0 : mPair a b = 0 := Decidable.not_not.1 h0
  obtain ⟨q1, q2, q3⟩ := mPair_zero h0
  have hal := (mCheck_zero q1).2.2
  have hl := sizes_len q3
  simp only [zDiffer, h0, if_true] at h34
  have hzl : (List.zipWith mExt a b).length = a.length := by simp; omega
  have hz : ∀ i (h1 : i < (List.zipWith mExt a b).length) (h2 : i < b.length), (∀ x ∈ (List.zipWith mExt a b)[i], okExtAt b[i] x) ∧ (List.zipWith mExt a b)[i].length ≤ 4096 ∧ b[i].length ≤ 4096 := fun i h1 h2 => by
    have h3 : i < a.length := by omega
    rw [List.getElem_zipWith]
    have h4 := sizes_get q3 h3 h2
    have h5 := (hal _ (List.getElem_mem h3)).2
    have h6 := mExt_len a[i] b[i]
    exact ⟨mExt_ok h4, by omega, by omega⟩
  have hps := patch_split a b
  generalize mPatch a b = W at hps
  have hW : zPatch a b = .tup [zWrs W, zI 0] := by
    have : mPatch a b = W := by unfold mPatch; rw [hps]
    unfold zPatch
    rw [if_pos h0, this]
  rw [hW]
  generalize List.zipWith mExt a b = Z at h34 hzl hz hps
  have hZl : Z.length ≤ 8 := by have := (mCheck_zero q1).2.1; omega
  obtain ⟨R, hR⟩ := fold_loop (E := ev) (C := callS ev fs) (Y := Y) (w := w40) (a := (loopsOf (bodyOf Go.Proofs.Try.f40))[0]?.getD .skip) (b := 0) 
    Z (patchF b) ([] : List Wr) (ex := fun (r : Empty) => nomatch r)
    (fun i out st => (out.length ≤ i * 4096 ∧ st.H[0]? = some (.box [zImg b]) ∧ st.H[1]? = some (.own i 3 (out.map wrRow))) ∧ LiveT [(3, .bp 0 0), (8, .os 1 0 out.length i), (20, zExtss Z), (21, zI Z.length), (22, zI i)] 0 st)
    (fun out st => (st.H[1]? = some (.own Z.length 3 (out.map wrRow))) ∧ LiveT [(8, .os 1 0 out.length Z.length)] 0 st) (fun r => nomatch r)
    (fun i out st hi h => by
      obtain ⟨⟨ho, hH0, hH1⟩, h⟩ := h
      obtain ⟨tm, H, b⟩ := st
      simp only [bodyOf, Go.Proofs.Try.f40, Option.getD_some, loopsOf, rangesOf, List.nil_append, List.append_nil, List.cons_append, List.getElem?_cons_zero, List.getElem?_cons_succ]
      simp only [go_sem] at h
      obtain ⟨g3, g8, g20, g21, g22, rfl⟩ := h
      simp only at hH0 hH1
      have hib : i < b.length := by omega
      obtain ⟨z1, z2, z3⟩ := hz i hi hib
      have hl1 := (List.getElem?_eq_some_iff.1 hH1).1
      have k0 := fun B => get_app (B := B) hH0
      have k1 := fun B => get_app (B := B) hH1
      have e0 := fun B hk => getE (k0 B) hk
      have e1 := fun B hk => getE (k1 B) hk
      have hlast : ∀ e, (H ++ [e])[H.length]? = some e := fun e => by simp
      have h106 := f106_spec i b hib Z[i] z1 (by omega) (by omega) (H ++ [.box [zI i]]) H.length 0 (hlast _) (k0 _) Y
      have hr : room (out.length + Z[i].length) 40 = true := room_ok (by omega) (by omega) (by omega)
      have hpf : patchF b i out Z[i] = .inl (out ++ Z[i].map (wrOf i b[i])) := by simp [patchF, hib]
      have hln : (out ++ Z[i].map (wrOf i b[i])).length ≤ (i + 1) * 4096 := by simp; omega
      rw [hpf]
      have hml : (Z[i].map (wrOf i b[i])).length = Z[i].length := by simp
      rw [← hml] at hr
      generalize Z[i].map (wrOf i b[i]) = new at h106 hr hln ⊢
      have hse : ∀ B e, ((H ++ B).set 1 e)[0]? = some (.box [zImg b]) := fun B e => by rw [List.getElem?_set_ne (by omega)]; exact k0 B
      have hs1 : ∀ B e, ((H ++ B).set 1 e)[1]? = some e := fun B e => List.getElem?_set_self (by simp; omega)
      have htk : (List.map wrRow out).take out.length = List.map wrRow out := List.take_of_length_le (by simp)
      simp only [go_sem, List.length_append] at h106 hse hln
      simp [go_sem, g3, g8, g20, g21, g22, hi, hib, k0, k1, e0, e1, h106, hr, hse, hs1, hln, htk, show i < 1000000000 by omega])
    (fun out st h => by
      obtain ⟨⟨_, _, hH1⟩, h⟩ := h
      obtain ⟨tm, H, b⟩ := st
      simp only [bodyOf, Go.Proofs.Try.f40, Option.getD_some, loopsOf, rangesOf, List.nil_append, List.append_nil, List.cons_append, List.getElem?_cons_zero, List.getElem?_cons_succ]
      simp only [go_sem] at h
      obtain ⟨g3, g8, g20, g21, g22, rfl⟩ := h
      simp only at hH1
      simp [go_sem, g8, g21, g22, hH1])
    (fun r => nomatch r)
  rw [hps] at hR
  simp only [bodyOf, Go.Proofs.Try.f40, Option.getD_some, loopsOf, rangesOf, List.nil_append, List.append_nil, List.cons_append, List.getElem?_cons_zero, List.getElem?_cons_succ] at hR
  simp [go_sem] at hR
  simp only [go_sem] at h34
  simp [go_sem, freeze_os, h34, hR]
  done
end Go.Proofs.Ytlphdiccffnckaa
