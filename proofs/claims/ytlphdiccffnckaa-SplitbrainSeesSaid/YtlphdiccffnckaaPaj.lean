/- Texts put together: Ime, Imf, Img. -/
import Derived.Test.YtlphdiccffnckaaPai

/- Layer 7: images that are written. -/
namespace Go.Proofs.Ytlphdiccffnckaa
open Go Go.Abs

def imgRows (u : Nat) : Nat → Img → List (List AV)
  | _, [] => []
  | k, v :: c => [.os k 0 v.length u] :: imgRows u (k + 2) c
theorem imgRows_len (u : Nat) : ∀ (c : Img) (k : Nat), (imgRows u k c).length = c.length
  | [], _ => rfl
  | v :: c, k => by simp [imgRows, imgRows_len u c]
theorem imgRows_app (u : Nat) (v : Vol) : ∀ (c : Img) (k : Nat), imgRows u k (c ++ [v]) = imgRows u k c ++ [[.os (2 * c.length + k) 0 v.length u]]
  | [], k => by simp [imgRows]
  | x :: c, k => by
    simp only [List.cons_append, imgRows, imgRows_app u v c, List.length_cons]
    rw [show 2 * c.length + (k + 2) = 2 * (c.length + 1) + k by omega]
theorem imgRows_get (u : Nat) : ∀ (c : Img) (k j : Nat) (h : j < c.length), (imgRows u k c)[j]? = some [.os (2 * j + k) 0 (c[j]).length u]
  | [], _, _, h => by simp at h
  | v :: c, k, 0, _ => by simp [imgRows]
  | v :: c, k, j + 1, h => by
    simp only [imgRows, List.getElem?_cons_succ, List.getElem_cons_succ]
    rw [imgRows_get u c (k + 2) j (by simpa using h), show 2 * j + (k + 2) = 2 * (j + 1) + k by omega]
theorem imgRows_set (u : Nat) : ∀ (c : Img) (k j : Nat) (v : Vol) (h : j < c.length), v.length = (c[j]).length → imgRows u k (c.set j v) = imgRows u k c
  | [], _, _, _, h, _ => by simp at h
  | x :: c, k, 0, v, _, hv => by simp at hv; simp [imgRows, hv]
  | x :: c, k, j + 1, v, h, hv => by
    simp only [List.set_cons_succ, imgRows]
    rw [imgRows_set u c (k + 2) j v (by simpa using h) (by simpa using hv)]

/-- An image that is written lies in the entities: entity 0 holds the volumes, the odd ones the sectors. -/
structure Holds (u : Nat) (c : Img) (H : List Ent) : Prop where
  top : H[0]? = some (.own c.length 1 (imgRows u 1 c))
  vol : ∀ j (h : j < c.length), H[2 * j + 1]? = some (.own u 8 (c[j].map secRow))
theorem get_app {H B : List Ent} {k : Nat} {e : Ent} (h : H[k]? = some e) : (H ++ B)[k]? = some e := by
  rw [List.getElem?_append_left (List.getElem?_eq_some_iff.1 h).1]; exact h
theorem Holds.app {u : Nat} {c : Img} {H : List Ent} (h : Holds u c H) (B : List Ent) : Holds u c (H ++ B) := ⟨get_app h.top, fun j hj => get_app (h.vol j hj)⟩
theorem Holds.set {u : Nat} {c : Img} {H : List Ent} (h : Holds u c H) {j : Nat} (hj : j < c.length) {v : Vol} (hv : v.length = (c[j]).length) : Holds u (c.set j v) (H.set (2 * j + 1) (.own u 8 (v.map secRow))) := by
  have hl := (List.getElem?_eq_some_iff.1 (h.vol j hj)).1
  refine ⟨?_, fun i hi => ?_⟩
  · rw [List.getElem?_set_ne (by omega), h.top, imgRows_set u c 1 j v hj hv, List.length_set]
  · simp only [List.length_set] at hi
    by_cases hij : i = j
    · subst hij
      rw [List.getElem?_set_self hl]
      simp
    · rw [List.getElem?_set_ne (by omega), h.vol i hi]
      simp [List.getElem_set_ne (Ne.symm hij)]

theorem freeze_rows {H : List Ent} {u d : Nat} : ∀ (c : Img) (k : Nat), (∀ j (h : j < c.length), H[2 * j + k]? = some (.own u 8 (c[j].map secRow))) →
    mapO (fun x => if AV.pureL x = true then some x else (mapO (AV.freeze 0 H (d + 1)) x).bind fun y => if AV.pureL y = true then some y else none) (imgRows u k c) = some (c.map fun v => [.sl false 8 (v.map secRow)])
  | [], _, _ => rfl
  | v :: c, k, h => by
    have h0 := h 0 (by simp)
    simp only [Nat.mul_zero, Nat.zero_add, List.getElem_cons_zero] at h0
    have ih := freeze_rows (d := d) c (k + 2) fun j hj => by
      have := h (j + 1) (by simpa using hj)
      rw [show 2 * (j + 1) + k = 2 * j + (k + 2) by omega] at this
      simpa using this
    simp only [imgRows, mapO_cons, mapO_nil, List.map_cons, ih, freeze_os, h0]
    simp [AV.pureL, AV.pure, pureLL_map secRow_pure, take_map_len]

theorem freeze_img {u d : Nat} {c : Img} {H : List Ent} (h : Holds u c H) : AV.freeze 0 H (d + 2) (.os 0 0 c.length c.length) = some (.sl false 1 (c.map fun v => [.sl false 8 (v.map secRow)])) := by
  unfold AV.freeze
  simp only [Nat.not_lt_zero, if_false]
  rw [snap_os, h.top]
  simp only [Nat.zero_add, true_and, imgRows_len, Nat.le_refl, if_true, Option.bind_some, List.drop_zero]
  rw [List.take_of_length_le (by rw [imgRows_len]; exact Nat.le_refl _), freeze_rows c 1 h.vol]
  rfl

theorem f103_spec (v : Vol) (H : List Ent) (hv : v ≠ []) (hl : v.length < 1000000000) (Y : List YF) :
    callS ev fs 103 [zVol v] H Y = some (.ret (.os H.length 0 v.length 1), H ++ [.own 1 8 (v.map secRow)]) := by
  refine callS_by f103_eq rfl ?_
  simp only [bodyOf, Go.Proofs.Try.f103, Option.getD_some]
  obtain ⟨x, v, rfl⟩ := List.exists_cons_of_ne_nil hv
  simp only [List.length_cons] at hl
  have hr : room (v.length + 1) 8 = true := room_ok (by omega) (by omega) (by omega)
  simp [go_sem, hr]

/-- The entities as they are made. -/
def volEnts (u : Nat) : Nat → Img → List Ent
  | _, [] => []
  | k, v :: c => .own u 8 (v.map secRow) :: .own 0 1 [[.os k 0 v.length u]] :: volEnts u (k + 2) c
theorem volEnts_len (u : Nat) : ∀ (c : Img) (k : Nat), (volEnts u k c).length = 2 * c.length
  | [], _ => rfl
  | v :: c, k => by simp [volEnts, volEnts_len u c]; omega
theorem volEnts_app (u : Nat) (v : Vol) : ∀ (c : Img) (k : Nat), volEnts u k (c ++ [v]) = volEnts u k c ++ [.own u 8 (v.map secRow), .own 0 1 [[.os (2 * c.length + k) 0 v.length u]]]
  | [], k => by simp [volEnts]
  | x :: c, k => by
    simp only [List.cons_append, volEnts, volEnts_app u v c, List.length_cons]
    rw [show 2 * c.length + (k + 2) = 2 * (c.length + 1) + k by omega]
theorem volEnts_get (u : Nat) : ∀ (c : Img) (k j : Nat) (h : j < c.length), (volEnts u k c)[2 * j]? = some (.own u 8 (c[j].map secRow))
  | [], _, _, h => by simp at h
  | v :: c, k, 0, _ => by simp [volEnts]
  | v :: c, k, j + 1, h => by
    rw [show 2 * (j + 1) = 2 * j + 1 + 1 by omega]
    simp only [volEnts, List.getElem?_cons_succ, List.getElem_cons_succ]
    exact volEnts_get u c (k + 2) j (by simpa using h)
theorem holds_made (u : Nat) (c : Img) : Holds u c (.own c.length 1 (imgRows u 1 c) :: volEnts u 1 c) := ⟨rfl, fun j h => by
  rw [List.getElem?_cons_succ]
  exact volEnts_get u c 1 j h⟩
theorem get_last {G : List Ent} {a b : Ent} {n : Nat} (h : G.length = n) : (G ++ [a, b])[n + 1]? = some b := by
  subst h
  rw [List.getElem?_append_right (by omega)]
  simp

theorem f180_spec (im : Img) (hl : im.length < 100000000) (hv : ∀ v ∈ im, v ≠ [] ∧ v.length < 1000000000) (Y : List YF) :
    ∃ H', callS ev fs 180 [zImg im, .fn 103 []] [] Y = some (.ret (.os 0 0 im.length im.length), H') ∧ Holds 1 im H' := by
  refine ⟨.own im.length 1 (imgRows 1 1 im) :: volEnts 1 1 im, ?_, holds_made 1 im⟩
  refine callS_by f180_eq rfl ?_
  simp only [bodyOf, Go.Proofs.Try.f180, Option.getD_some]
  have hroom : room im.length 24 = true := room_ok (by omega) (by omega) (by omega)
  obtain ⟨R, hR⟩ := fold_loop (E := ev) (C := callS ev fs) (Y := Y) (w := w180) (a := (loopsOf (bodyOf Go.Proofs.Try.f180))[0]?.getD .skip) (b := 0) 
    im (fun _ s x => .inl (s ++ [x])) ([] : Img) (ex := fun (r : Empty) => nomatch r)
    (fun i s st => s.length = i ∧ Live [(1, .fn 103 []), (5, .os 0 0 i i), (11, zImg im), (12, zI im.length), (13, zI i)] (.own i 1 (imgRows 1 1 s) :: volEnts 1 1 s) 0 st)
    (fun s => Live [(5, .os 0 0 im.length im.length)] (.own im.length 1 (imgRows 1 1 s) :: volEnts 1 1 s) 0) (fun r => nomatch r)
    (fun i s st hi h => by
      obtain ⟨rfl, h⟩ := h
      obtain ⟨tm, H, b⟩ := st
      simp only [bodyOf, Go.Proofs.Try.f180, Option.getD_some, loopsOf, rangesOf, List.nil_append, List.append_nil, List.cons_append, List.getElem?_cons_zero, List.getElem?_cons_succ]
      simp only [go_sem] at h
      obtain ⟨h1, h5, h11, h12, h13, rfl, rfl⟩ := h
      obtain ⟨hx, hxl⟩ := hv im[s.length] (List.getElem_mem hi)
      have hc := fun (H : List Ent) => f103_spec im[s.length] H hx hxl Y
      simp only [go_sem] at hc
      have hr : room (s.length + 1) 24 = true := room_ok (by omega) (by omega) (by omega)
      have hg := fun a b => get_last (a := a) (b := b) (volEnts_len 1 s 1)
      have hri := imgRows_len 1 s 1
      have htk : (imgRows 1 1 s).take s.length = imgRows 1 1 s := List.take_of_length_le (by omega)
      simp [go_sem, h1, h5, h11, h12, h13, hi, hc, hr, hg, hri, htk, volEnts_len, volEnts_app, imgRows_app, show s.length < 1000000000 by omega])
    (fun s st h => by
      obtain ⟨_, h⟩ := h
      obtain ⟨tm, H, b⟩ := st
      simp only [bodyOf, Go.Proofs.Try.f180, Option.getD_some, loopsOf, rangesOf, List.nil_append, List.append_nil, List.cons_append, List.getElem?_cons_zero, List.getElem?_cons_succ]
      simp only [go_sem] at h
      obtain ⟨h1, h5, h11, h12, h13, rfl, rfl⟩ := h
      simp [go_sem, h5, h12, h13])
    (fun r => nomatch r)
  simp only [bodyOf, Go.Proofs.Try.f180, Option.getD_some, loopsOf, rangesOf, List.nil_append, List.append_nil, List.cons_append, List.getElem?_cons_zero, List.getElem?_cons_succ] at hR
  rw [show (fun (_ : Nat) (s : Img) (x : Vol) => (Sum.inl (s ++ [x]) : Img ⊕ Empty)) = fun _ s x => Sum.inl (s ++ [id x]) from rfl, foldE_map] at hR
  simp [go_sem, imgRows, volEnts] at hR
  simp [go_sem, hR, hroom, show im.length ≤ 1099511627776 by omega]

theorem f98_spec (im : Img) (hl : im.length < 100000000) (hv : ∀ v ∈ im, v ≠ [] ∧ v.length < 1000000000) (Y : List YF) :
    ∃ H', callS ev fs 98 [zImg im] [] Y = some (.ret (.os 0 0 im.length im.length), H') ∧ Holds 1 im H' := by
  obtain ⟨H', h1, h2⟩ := f180_spec im hl hv Y
  refine ⟨H', ?_, h2⟩
  refine callS_by f98_eq rfl ?_
  simp only [bodyOf, Go.Proofs.Try.f98, Option.getD_some]
  simp only [go_sem] at h1
  simp [go_sem, h1]
end Go.Proofs.Ytlphdiccffnckaa

/- Layer 7: Apply. -/
namespace Go.Proofs.Ytlphdiccffnckaa
open Go Go.Abs

theorem getE {H : List Ent} {k : Nat} {e : Ent} (h : H[k]? = some e) (hk : k < H.length) : H[k] = e := by
  rw [List.getElem?_eq_getElem hk] at h
  exact Option.some.inj h
@[go_sem] theorem imgRows_getE (u : Nat) (c : Img) (k j : Nat) (h : j < (imgRows u k c).length) : (imgRows u k c)[j] = [.os (2 * j + k) 0 (c[j]'(by rwa [imgRows_len] at h)).length u] := by
  have h' : j < c.length := by rwa [imgRows_len] at h
  have := imgRows_get u c k j h'
  rw [List.getElem?_eq_getElem h] at this
  exact Option.some.inj this
theorem f96_gen (c : Img) (w : Wr) (u : Nat) (H : List Ent) (hH : Holds u c H) (hi : ∀ x ∈ c, x.length < 1000000000) (hd : w.d.length < 1000000000) (Y : List YF) :
    callS ev fs 96 [.os 0 0 c.length c.length, .agg (wrRow w)] H Y = some (.ret (zI (mFits c w)), H) := by
  obtain ⟨v, s, d⟩ := w
  simp only at hd
  refine callS_by f96_eq rfl ?_
  simp only [bodyOf, Go.Proofs.Try.f96, Option.getD_some]
  have hb0 := fun B => (hH.app B).top
  have hb := fun B hk => getE (hb0 B) hk
  by_cases h1 : v < 0
  · simp [go_sem, h1, mFits, hb]
  by_cases h2 : ↑c.length ≤ v
  · simp [go_sem, h1, h2, mFits, hb, hb0]
  obtain ⟨n, rfl⟩ : ∃ n : Nat, v = n := ⟨v.toNat, by omega⟩
  have hn : n < c.length := by omega
  have hrl := hi c[n] (List.getElem_mem hn)
  by_cases h3 : d = []
  · simp [go_sem, h2, h3, mFits, hn, hb, hb0]
  have hv := fun B => (hH.app B).vol n hn
  have hrw := imgRows_get u c 1 n hn
  by_cases h4 : s < 0
  · simp [go_sem, h2, h3, h4, mFits, hn, hb, hb0]
  by_cases h5 : (c[n].length : Int) - d.length < s
  · simp [go_sem, h2, h3, h4, h5, mFits, hn, hb, hb0, hv, hrw, imgRows_len, wrap64 (x := (c[n].length : Int) - d.length) (by omega)]
  · simp [go_sem, h2, h3, h4, h5, mFits, hn, hb, hb0, hv, hrw, imgRows_len, wrap64 (x := (c[n].length : Int) - d.length) (by omega)]

theorem mFits_sizes {c im : Img} (h : c.map List.length = im.map List.length) (w : Wr) : mFits c w = mFits im w := by
  have hl : c.length = im.length := by simpa using congrArg List.length h
  have hg : ∀ k : Nat, ((c[k]?).getD []).length = ((im[k]?).getD []).length := fun k => by
    have := congrArg (·[k]?) h
    simp only [List.getElem?_map] at this
    cases h1 : c[k]? <;> cases h2 : im[k]? <;> simp [h1, h2] at this ⊢
    exact this
  unfold mFits
  rw [hl, hg]

def mWrite (v : Vol) (s : Nat) (d : Vol) : Vol := v.take s ++ d ++ v.drop (s + d.length)
theorem mWrite_len {v : Vol} {s : Nat} {d : Vol} (h : s + d.length ≤ v.length) : (mWrite v s d).length = v.length := by simp [mWrite]; omega
def mWr (c : Img) (w : Wr) : Img := c.set w.v.toNat (mWrite ((c[w.v.toNat]?).getD []) w.s.toNat w.d)
theorem mFits_zero {c : Img} {w : Wr} (h : mFits c w = 0) : ∃ n s : Nat, ∃ hn : n < c.length, w.v = n ∧ w.s = s ∧ w.d ≠ [] ∧ s + w.d.length ≤ c[n].length := by
  unfold mFits at h
  split at h
  · simp at h
  split at h
  · simp at h
  split at h
  · simp at h
  · rename_i h1 h2 h3
    have hn : w.v.toNat < c.length := by omega
    rw [List.getElem?_eq_getElem hn, Option.getD_some] at h3
    exact ⟨w.v.toNat, w.s.toNat, hn, by omega, by omega, h2, by omega⟩
theorem mWr_sizes {c : Img} {w : Wr} (h : mFits c w = 0) : (mWr c w).map List.length = c.map List.length := by
  obtain ⟨n, s, hn, h1, h2, h3, h4⟩ := mFits_zero h
  unfold mWr
  rw [h1, h2, Int.toNat_natCast, Int.toNat_natCast, List.getElem?_eq_getElem hn, Option.getD_some, List.map_set, mWrite_len h4]
  apply List.ext_getElem
  · simp
  · intro i h5 h6
    simp only [List.getElem_set, List.getElem_map]
    split
    · subst_vars; rfl
    · rfl

/-- The writes, one after the other. -/
def mApplyF (im : Img) (i : Nat) (c : Img) (w : Wr) : Img ⊕ (Nat × Int) := if mFits im w = 0 then .inl (mWr c w) else .inr (i, mFits im w)
def mApply (im : Img) (l : List Wr) : Img ⊕ (Nat × Int) := foldE (mApplyF im) 0 im l
def zApply (im : Img) (l : List Wr) : AV :=
  if mCheck im = 0 then match mApply im l with
    | .inl c => .tup [zImg c, zI 0, zI 0]
    | .inr (i, e) => .tup [.sc (.slice none 0 0), zI i, zI e]
  else .tup [.sc (.slice none 0 0), zI 0, zI (mCheck im)]

theorem mCheck_zero {im : Img} (h : mCheck im = 0) : 1 ≤ im.length ∧ im.length ≤ 8 ∧ ∀ v ∈ im, v ≠ [] ∧ v.length ≤ 4096 := by
  obtain ⟨a, b, c⟩ := mSizes_zero h
  refine ⟨by simpa using a, by simpa using b, fun v hv => ?_⟩
  have := c v.length (List.mem_map.2 ⟨v, hv, rfl⟩)
  refine ⟨?_, by omega⟩
  rintro rfl
  simp at this

theorem write_row (v : Vol) (s n : Nat) (d : Vol) (hd : d.length ≤ n) : (v.map secRow).take s ++ overlay ((d.map secRow).take n) ((v.map secRow).drop s) = (mWrite v s d).map secRow := by
  rw [List.take_of_length_le (l := d.map secRow) (by simpa using hd)]
  simp [overlay, mWrite, List.map_take, List.map_drop]

theorem f31_spec (im : Img) (l : List Wr) (hl : im.length < 100000000) (hll : l.length < 100000000) (hd : ∀ w ∈ l, w.d.length < 1000000000) (Y : List YF) :
    callS ev fs 31 [zImg im, zWrs l] [] Y = some (.ret (zApply im l), []) := by
  refine callS_by f31_eq rfl ?_
  simp only [bodyOf, Go.Proofs.Try.f31, Option.getD_some]
  have h26 := f26_spec im hl []
  simp only [go_sem] at h26
  by_cases h0 : ¬ mCheck im = 0
  · simp [go_sem, h26, h0, zApply]
  replace h0 : mCheck im = 0 := by omega
  obtain ⟨q1, q2, q3⟩ := mCheck_zero h0
  obtain ⟨H0, h98, hH0⟩ := f98_spec im hl (fun v hv => ⟨(q3 v hv).1, by have := (q3 v hv).2; omega⟩) Y
  simp only [go_sem] at h98
  obtain ⟨R, hR⟩ := fold_loop (E := ev) (C := callS ev fs) (Y := Y) (w := w31) (a := (loopsOf (bodyOf Go.Proofs.Try.f31))[0]?.getD .skip) (b := 0) 
    l (mApplyF im) im (ex := fun _ => .ret)
    (fun i c st => c.map List.length = im.map List.length ∧ Holds 1 c st.H ∧ LiveT [(8, .os 0 0 im.length im.length), (19, zWrs l), (20, zI l.length), (21, zI i)] 0 st)
    (fun c st => c.length = im.length ∧ Holds 1 c st.H ∧ LiveT [(8, .os 0 0 im.length im.length)] 0 st)
    (fun r => fun st => st.tm.get 4 = .sc (.slice none 0 0) ∧ st.tm.get 5 = zI r.1 ∧ st.tm.get 6 = zI r.2 ∧ st.b = 0)
    (fun i c st hi h => by
      obtain ⟨hs, hH, h⟩ := h
      obtain ⟨tm, H, b⟩ := st
      simp only [bodyOf, Go.Proofs.Try.f31, Option.getD_some, loopsOf, rangesOf, List.nil_append, List.append_nil, List.cons_append, List.getElem?_cons_zero, List.getElem?_cons_succ]
      simp only [go_sem] at h
      obtain ⟨h8, h19, h20, h21, rfl⟩ := h
      have hcl : c.length = im.length := by simpa using congrArg List.length hs
      have hb := fun B => (hH.app B).top
      have hcv : ∀ x ∈ c, x.length < 1000000000 := fun x hx => by
        have : x.length ∈ im.map List.length := hs ▸ List.mem_map.2 ⟨x, hx, rfl⟩
        obtain ⟨y, hy, he⟩ := List.mem_map.1 this
        have := (q3 y hy).2
        omega
      have h96 := fun B => f96_gen c l[i] 1 (H ++ B) (hH.app B) hcv (hd _ (List.getElem_mem hi)) Y
      simp only [go_sem, mFits_sizes hs, hcl] at h96
      by_cases hf : ¬ mFits im l[i] = 0
      · simp [go_sem, h8, h19, h20, h21, hi, h96, hf, mApplyF]
      replace hf : mFits im l[i] = 0 := by omega
      have hz := mWr_sizes (c := c) (w := l[i]) (by rw [mFits_sizes hs]; exact hf)
      obtain ⟨n, s, hn, e1, e2, e3, e4⟩ := mFits_zero (c := c) (w := l[i]) (by rw [mFits_sizes hs]; exact hf)
      have hdl : 0 < l[i].d.length := List.length_pos_iff.2 e3
      have hnn : n < im.length := by omega
      have hb0 := fun B => (hH.app B).top
      have hb1 := fun B hk => getE (hb0 B) hk
      have hv := fun B => (hH.app B).vol n hn
      have hfin := fun B => (hH.app B).set hn (v := mWrite c[n] s l[i].d) (mWrite_len e4)
      simp only [mApplyF, hf, if_true]
      rw [show mWr c l[i] = c.set n (mWrite c[n] s l[i].d) by simp [mWr, e1, e2, hn]] at hz ⊢
      rw [hs, List.map_set] at hz
      cases s with
      | zero =>
        have hrow := write_row c[n] 0 c[n].length l[i].d (by omega)
        simp only [List.take_zero, List.nil_append, List.drop_zero] at hrow
        have e2 : l[i].s = 0 := by simpa using e2
        simp only [e1, e2] at h96
        simp [go_sem, h8, h19, h20, h21, hi, h96, hf, hb0, hb1, hv, hn, hnn, hcl, e1, e2, imgRows_len, hrow, hfin, hz, show i < 1000000000 by omega]
      | succ s =>
        have hrow := write_row c[n] (s + 1) (c[n].length - (s + 1)) l[i].d (by omega)
        have e2 : l[i].s = (s : Int) + 1 := by simpa using e2
        simp only [e1, e2] at h96
        simp [go_sem, h8, h19, h20, h21, hi, h96, hf, hb0, hb1, hv, hn, hnn, hcl, e1, e2, imgRows_len, hrow, hfin, hz, show i < 1000000000 by omega, show (0 : Int) ≤ (s : Int) + 1 by omega, show s + 1 ≤ c[n].length by omega, show s + 1 < c[n].length by omega, show s + 1 + (c[n].length - (s + 1)) ≤ c[n].length by omega])
    (fun c st h => by
      obtain ⟨hs, hH, h⟩ := h
      obtain ⟨tm, H, b⟩ := st
      simp only [bodyOf, Go.Proofs.Try.f31, Option.getD_some, loopsOf, rangesOf, List.nil_append, List.append_nil, List.cons_append, List.getElem?_cons_zero, List.getElem?_cons_succ]
      simp only [go_sem] at h
      obtain ⟨h8, h19, h20, h21, rfl⟩ := h
      have hcl : c.length = im.length := by simpa using congrArg List.length hs
      simp [go_sem, h8, h20, h21, hcl]
      exact hH)
    (fun _ h => by cases h)
  simp only [bodyOf, Go.Proofs.Try.f31, Option.getD_some, loopsOf, rangesOf, List.nil_append, List.append_nil, List.cons_append, List.getElem?_cons_zero, List.getElem?_cons_succ] at hR
  have hm : foldE (mApplyF im) 0 im l = mApply im l := rfl
  rw [hm] at hR
  cases hr : mApply im l with
  | inl c =>
    rw [hr] at hR
    simp [go_sem] at hR
    have hfz : ∀ st, Holds 1 im st.H → st.tm.get 8 = .os 0 0 im.length im.length → st.tm.get 19 = zWrs l → st.tm.get 20 = zI l.length → st.tm.get 21 = zI 0 → st.b = 0 →
        AV.freeze 0 (R st).H 5 (.os 0 0 im.length im.length) = some (zImg c) := fun st a1 a2 a3 a4 a5 a6 => by
      obtain ⟨_, b2, b3, _⟩ := hR st a1 a2 a3 a4 a5 a6
      rw [← b2]
      exact freeze_img b3
    simp only [go_sem] at hfz
    simp [go_sem, h26, h0, h98, hH0, hR, hfz, zApply, hr]
  | inr r =>
    rw [hr] at hR
    simp [go_sem] at hR
    simp [go_sem, h26, h0, h98, hH0, hR, zApply, hr]
end Go.Proofs.Ytlphdiccffnckaa

/- Layer 7: Apply of the reference; the law ImageApplies. -/
namespace Go.Proofs.Ytlphdiccffnckaa
open Go Go.Abs

@[go_sem] theorem secRow_drop (s : Sec) : (secRow s).drop 8 = [] := List.drop_of_length_le (by simp [secRow_len])

theorem f33_spec (im : Img) (hl : im.length < 100000000) (hv : ∀ v ∈ im, v.length < 1000000000) (Y : List YF) :
    ∃ H', callS ev fs 33 [zImg im] [] Y = some (.ret (.os 0 0 im.length im.length), H') ∧ Holds 0 im H' := by
  refine ⟨.own im.length 1 (imgRows 0 1 im) :: volEnts 0 1 im, ?_, holds_made 0 im⟩
  refine callS_by f33_eq rfl ?_
  simp only [bodyOf, Go.Proofs.Try.f33, Option.getD_some]
  obtain ⟨R, hR⟩ := fold_loop (E := ev) (C := callS ev fs) (Y := Y) (w := w33) (a := (loopsOf (bodyOf Go.Proofs.Try.f33))[0]?.getD .skip) (b := 0) 
    im (fun _ s x => .inl (s ++ [id x])) ([] : Img) (ex := fun (r : Empty) => nomatch r)
    (fun i s st => s.length = i ∧ Live [(0, zImg im), (3, .os 0 0 i i), (4, zI i)] (.own i 1 (imgRows 0 1 s) :: volEnts 0 1 s) 0 st)
    (fun s => Live [(3, .os 0 0 im.length im.length)] (.own im.length 1 (imgRows 0 1 s) :: volEnts 0 1 s) 0) (fun r => nomatch r)
    (fun i s st hi h => by
      obtain ⟨rfl, h⟩ := h
      obtain ⟨tm, H, b⟩ := st
      simp only [bodyOf, Go.Proofs.Try.f33, Option.getD_some, loopsOf, rangesOf, List.nil_append, List.append_nil, List.cons_append, List.getElem?_cons_zero, List.getElem?_cons_succ]
      simp only [go_sem] at h
      obtain ⟨h0, h3, h4, rfl, rfl⟩ := h
      have hxl := hv im[s.length] (List.getElem_mem hi)
      have hr : room (s.length + 1) 24 = true := room_ok (by omega) (by omega) (by omega)
      have hr2 : room im[s.length].length 8 = true := room_ok (by omega) (by omega) (by omega)
      have hg := fun a b => get_last (a := a) (b := b) (volEnts_len 0 s 1)
      have hri := imgRows_len 0 s 1
      have htk : (imgRows 0 1 s).take s.length = imgRows 0 1 s := List.take_of_length_le (by omega)
      simp [go_sem, h0, h3, h4, hi, hr, hr2, hg, hri, htk, volEnts_len, volEnts_app, imgRows_app, show s.length < 1000000000 by omega])
    (fun s st h => by
      obtain ⟨_, h⟩ := h
      obtain ⟨tm, H, b⟩ := st
      simp only [bodyOf, Go.Proofs.Try.f33, Option.getD_some, loopsOf, rangesOf, List.nil_append, List.append_nil, List.cons_append, List.getElem?_cons_zero, List.getElem?_cons_succ]
      simp only [go_sem] at h
      obtain ⟨h0, h3, h4, rfl, rfl⟩ := h
      simp [go_sem, h0, h3, h4])
    (fun r => nomatch r)
  simp only [bodyOf, Go.Proofs.Try.f33, Option.getD_some, loopsOf, rangesOf, List.nil_append, List.append_nil, List.cons_append, List.getElem?_cons_zero, List.getElem?_cons_succ] at hR
  rw [foldE_map] at hR
  simp [go_sem, imgRows, volEnts] at hR
  simp [go_sem, hR]

theorem foldE_write (s : Nat) : ∀ (d v : Vol) (k : Nat), s + k + d.length ≤ v.length → foldE (ρ := Empty) (fun k (x : Vol) y => .inl (x.set (s + k) y)) k v d = .inl (mWrite v (s + k) d)
  | [], v, k, _ => by simp [foldE, mWrite]
  | y :: d, v, k, h => by
    simp only [List.length_cons] at h
    simp only [foldE]
    rw [foldE_write s d (v.set (s + k) y) (k + 1) (by simp; omega)]
    congr 1
    have h1 : s + k < v.length := by omega
    simp only [mWrite, List.length_cons]
    rw [← Nat.add_assoc, List.take_set, List.drop_set, if_pos (by omega), List.take_succ_eq_append_getElem h1]
    have h2 : (v.take (s + k)).length = s + k := by simp; omega
    have h3 : (v.take (s + k) ++ [v[s + k]]).set (s + k) y = v.take (s + k) ++ [y] := by rw [List.set_append, if_neg (by omega), h2, Nat.sub_self]; rfl
    rw [h3, show s + k + 1 + d.length = s + k + (d.length + 1) by omega]
    simp

theorem f32_spec (im : Img) (l : List Wr) (hl : im.length < 100000000) (hi0 : ∀ x ∈ im, x.length < 1000000000) (hll : l.length < 100000000) (hd : ∀ w ∈ l, w.d.length < 1000000000) (Y : List YF) :
    callS ev fs 32 [zImg im, zWrs l] [] Y = some (.ret (zApply im l), []) := by
  refine callS_by f32_eq rfl ?_
  simp only [bodyOf, Go.Proofs.Try.f32, Option.getD_some]
  have h27 := f27_spec im hl []
  simp only [go_sem] at h27
  by_cases h0 : ¬ mCheck im = 0
  · simp [go_sem, h27, h0, zApply]
  replace h0 : mCheck im = 0 := by omega
  obtain ⟨q1, q2, q3⟩ := mCheck_zero h0
  obtain ⟨H0, h33, hH0⟩ := f33_spec im hl hi0 Y
  simp only [go_sem] at h33
  obtain ⟨R, hR⟩ := fold_loop (E := ev) (C := callS ev fs) (Y := Y) (w := w32) (a := (loopsOf (bodyOf Go.Proofs.Try.f32))[0]?.getD .skip) (b := 0) 
    l (mApplyF im) im (ex := fun _ => .ret)
    (fun i c st => c.map List.length = im.map List.length ∧ Holds 0 c st.H ∧ LiveT [(0, zImg im), (1, zWrs l), (8, .os 0 0 im.length im.length), (9, zI i)] 0 st)
    (fun c st => c.length = im.length ∧ Holds 0 c st.H ∧ LiveT [(8, .os 0 0 im.length im.length)] 0 st)
    (fun r => fun st => st.tm.get 4 = .sc (.slice none 0 0) ∧ st.tm.get 5 = zI r.1 ∧ st.tm.get 6 = zI r.2 ∧ st.b = 0)
    (fun i c st hi h => by
      obtain ⟨hs, hH, h⟩ := h
      obtain ⟨tm, H, b⟩ := st
      simp only [bodyOf, Go.Proofs.Try.f32, Option.getD_some, loopsOf, rangesOf, List.nil_append, List.append_nil, List.cons_append, List.getElem?_cons_zero, List.getElem?_cons_succ]
      simp only [go_sem] at h
      obtain ⟨h0', h1, h8, h9, rfl⟩ := h
      have hcl : c.length = im.length := by simpa using congrArg List.length hs
      have h30 := f30_spec im l[i] hl hi0 (hd _ (List.getElem_mem hi)) []
      simp only [go_sem, mFit, h0, if_true] at h30
      by_cases hf : ¬ mFits im l[i] = 0
      · simp [go_sem, h0', h1, h8, h9, hi, h30, hf, mApplyF]
      replace hf : mFits im l[i] = 0 := by omega
      have hz := mWr_sizes (c := c) (w := l[i]) (by rw [mFits_sizes hs]; exact hf)
      obtain ⟨n, s, hn, e1, e2, e3, e4⟩ := mFits_zero (c := c) (w := l[i]) (by rw [mFits_sizes hs]; exact hf)
      have hnn : n < im.length := by omega
      have hcn : c[n].length ≤ 4096 := by
        have : c[n].length ∈ im.map List.length := hs ▸ List.mem_map.2 ⟨_, List.getElem_mem hn, rfl⟩
        obtain ⟨y, hy, he⟩ := List.mem_map.1 this
        have := (q3 y hy).2
        omega
      obtain ⟨R2, hR2⟩ := fold_loop (E := ev) (C := callS ev fs) (Y := Y) (w := w32) (a := (loopsOf (bodyOf Go.Proofs.Try.f32))[1]?.getD .skip) (b := 2) 
        l[i].d (fun k (x : Vol) y => .inl (x.set (s + k) y)) c[n] (ex := fun (r : Empty) => nomatch r)
        (fun k x st => x.length = c[n].length ∧ Holds 0 (c.set n x) st.H ∧ LiveT [(0, zImg im), (1, zWrs l), (8, .os 0 0 im.length im.length), (9, zI i), (11, zI k)] 0 st)
        (fun x st => Holds 0 (c.set n x) st.H ∧ LiveT [(0, zImg im), (1, zWrs l), (8, .os 0 0 im.length im.length), (9, zI i)] 0 st) (fun r => nomatch r)
        (fun k x st hk h => by
          obtain ⟨hx, hH, h⟩ := h
          obtain ⟨tm, H, b⟩ := st
          simp only [bodyOf, Go.Proofs.Try.f32, Option.getD_some, loopsOf, rangesOf, List.nil_append, List.append_nil, List.cons_append, List.getElem?_cons_zero, List.getElem?_cons_succ]
          simp only [go_sem] at h
          obtain ⟨g0, g1, g8, g9, g11, rfl⟩ := h
          have htop := hH.top
          have hv := hH.vol n (by simpa using hn)
          have hfin := hH.set (j := n) (v := x.set (s + k) l[i].d[k]) (by simpa using hn) (by simp)
          simp only [List.length_set, List.getElem_set_self, List.set_set, List.map_set, imgRows_set 0 c 1 n x hn hx] at htop hv hfin
          have hw := wrap64 (x := (s : Int) + k) (by omega)
          simp [go_sem, g0, g1, g8, g9, g11, hi, hk, htop, hv, hfin, hw, hn, hnn, hcl, hx, e1, e2, imgRows_len, show k < 1000000000 by omega, show (0 : Int) ≤ (s : Int) + k by omega, show ((s : Int) + k).toNat = s + k by omega, show s + k < c[n].length by omega, show ¬ (s : Int) + k < 0 by omega]
          )
        (fun x st h => by
          obtain ⟨hx, hH, h⟩ := h
          obtain ⟨tm, H, b⟩ := st
          simp only [bodyOf, Go.Proofs.Try.f32, Option.getD_some, loopsOf, rangesOf, List.nil_append, List.append_nil, List.cons_append, List.getElem?_cons_zero, List.getElem?_cons_succ]
          simp only [go_sem] at h
          obtain ⟨g0, g1, g8, g9, g11, rfl⟩ := h
          simp [go_sem, g0, g1, g8, g9, g11, hi, hH])
        (fun r => nomatch r)
      simp only [bodyOf, Go.Proofs.Try.f32, Option.getD_some, loopsOf, rangesOf, List.nil_append, List.append_nil, List.cons_append, List.getElem?_cons_zero, List.getElem?_cons_succ] at hR2
      rw [foldE_write s _ _ 0 (by omega)] at hR2
      simp [go_sem] at hR2
      have hmw : mWr c l[i] = c.set n (mWrite c[n] s l[i].d) := by simp [mWr, e1, e2, hn]
      rw [hmw, hs, List.map_set] at hz
      simp [go_sem, h0', h1, h8, h9, hi, h30, hf, mApplyF, hR2, hH, hz, hmw, hn, show i < 1000000000 by omega])
    (fun c st h => by
      obtain ⟨hs, hH, h⟩ := h
      obtain ⟨tm, H, b⟩ := st
      simp only [bodyOf, Go.Proofs.Try.f32, Option.getD_some, loopsOf, rangesOf, List.nil_append, List.append_nil, List.cons_append, List.getElem?_cons_zero, List.getElem?_cons_succ]
      simp only [go_sem] at h
      obtain ⟨h0', h1, h8, h9, rfl⟩ := h
      have hcl : c.length = im.length := by simpa using congrArg List.length hs
      simp [go_sem, h0', h1, h8, h9, hcl]
      exact hH)
    (fun _ h => by cases h)
  simp only [bodyOf, Go.Proofs.Try.f32, Option.getD_some, loopsOf, rangesOf, List.nil_append, List.append_nil, List.cons_append, List.getElem?_cons_zero, List.getElem?_cons_succ] at hR
  have hm : foldE (mApplyF im) 0 im l = mApply im l := rfl
  rw [hm] at hR
  cases hr : mApply im l with
  | inl c =>
    rw [hr] at hR
    simp [go_sem] at hR
    have hfz : ∀ st, Holds 0 im st.H → st.tm.get 0 = zImg im → st.tm.get 1 = zWrs l → st.tm.get 8 = .os 0 0 im.length im.length → st.tm.get 9 = zI 0 → st.b = 0 →
        AV.freeze 0 (R st).H 5 (.os 0 0 im.length im.length) = some (zImg c) := fun st a1 a2 a3 a4 a5 a6 => by
      obtain ⟨_, b2, b3, _⟩ := hR st a1 a2 a3 a4 a5 a6
      rw [← b2]
      exact freeze_img b3
    simp only [go_sem] at hfz
    simp [go_sem, h27, h0, h33, hH0, hR, hfz, zApply, hr]
  | inr r =>
    rw [hr] at hR
    simp [go_sem] at hR
    simp [go_sem, h27, h0, h33, hH0, hR, zApply, hr]

theorem mApply_sizes {im : Img} : ∀ (l : List Wr) (i : Nat) (c c' : Img), c.map List.length = im.map List.length → foldE (mApplyF im) i c l = .inl c' → c'.map List.length = im.map List.length
  | [], i, c, c', hc, h => by
    simp only [foldE, Sum.inl.injEq] at h
    rw [← h, hc]
  | w :: l, i, c, c', hc, h => by
    simp only [foldE, mApplyF] at h
    by_cases hf : mFits im w = 0
    · simp only [hf, if_true] at h
      exact mApply_sizes l (i + 1) (mWr c w) c' (by rw [mWr_sizes (by rw [mFits_sizes hc]; exact hf), hc]) h
    · simp [hf] at h
theorem sizes_len {c im : Img} (h : c.map List.length = im.map List.length) : c.length = im.length := by simpa using congrArg List.length h
theorem sizes_mem {c im : Img} (h : c.map List.length = im.map List.length) {n : Nat} (hm : ∀ v ∈ im, v.length ≤ n) : ∀ v ∈ c, v.length ≤ n := fun v hv => by
  have : v.length ∈ im.map List.length := h ▸ List.mem_map.2 ⟨v, hv, rfl⟩
  obtain ⟨y, hy, he⟩ := List.mem_map.1 this
  have := hm y hy
  omega

theorem f4_spec (im : Img) (l : List Wr) (Y : List YF) : callS ev fs 4 [zImg im, zWrs l] [] Y = some (.ret (zB true), []) := by
  refine callS_by f4_eq rfl ?_
  simp only [bodyOf, Go.Proofs.Try.f4, Option.getD_some]
  have hw := f22_call
  have h19 := f19_spec im []
  have h28 := f28_spec l []
  simp only [go_sem] at hw h19 h28
  cases hf : mFew im
  · simp [go_sem, h19, hf, hw]
  cases hg : mFewW l
  · simp [go_sem, h19, h28, hf, hg, hw]
  obtain ⟨i1, i2⟩ := few_len hf
  obtain ⟨j1, j2⟩ := fewW hg
  have i3 : ∀ x ∈ im, x.length < 1000000000 := fun x hx => by have := i2 x hx; omega
  obtain ⟨R, hR⟩ := fold_loop (E := ev) (C := callS ev fs) (Y := Y) (w := {}) (a := (loopsOf (bodyOf Go.Proofs.Try.f4))[0]?.getD .skip) (b := 0) 
    l (fun _ (_ : Unit) (_ : Wr) => .inl ()) () (ex := fun (r : Empty) => nomatch r)
    (fun i _ => LiveT [(0, zImg im), (1, zWrs l), (22, zWrs l), (23, zI l.length), (24, zI i)] 0)
    (fun _ => LiveT [(0, zImg im), (1, zWrs l)] 0) (fun r => nomatch r)
    (fun i c st hi h => by
      have hH := True.intro
      obtain ⟨tm, H, b⟩ := st
      simp only [bodyOf, Go.Proofs.Try.f4, Option.getD_some, loopsOf, rangesOf, List.nil_append, List.append_nil, List.cons_append, List.getElem?_cons_zero, List.getElem?_cons_succ]
      simp only [go_sem] at h
      obtain ⟨h0, h1, h22, h23, h24, rfl⟩ := h
      have hdi := j2 _ (List.getElem_mem hi)
      have h29 := f29_spec im l[i] (by omega) i3 (by omega) []
      have h30 := f30_spec im l[i] (by omega) i3 (by omega) []
      simp only [go_sem] at h29 h30
      simp [go_sem, h0, h1, h22, h23, h24, hi, h29, h30, show i < 1000000000 by omega])
    (fun c st h => by
      have hH := True.intro
      obtain ⟨tm, H, b⟩ := st
      simp only [bodyOf, Go.Proofs.Try.f4, Option.getD_some, loopsOf, rangesOf, List.nil_append, List.append_nil, List.cons_append, List.getElem?_cons_zero, List.getElem?_cons_succ]
      simp only [go_sem] at h
      obtain ⟨h0, h1, h22, h23, h24, rfl⟩ := h
      simp [go_sem, h0, h1, h22, h23, h24])
    (fun r => nomatch r)
  simp only [bodyOf, Go.Proofs.Try.f4, Option.getD_some, loopsOf, rangesOf, List.nil_append, List.append_nil, List.cons_append, List.getElem?_cons_zero, List.getElem?_cons_succ] at hR
  rw [show (fun (_ : Nat) (_ : Unit) (_ : Wr) => (Sum.inl () : Unit ⊕ Empty)) = fun _ s x => Sum.inl ((fun (s : Unit) (_ : Wr) => s) s x) from rfl, foldE_fold] at hR
  simp [go_sem] at hR
  have h31 := f31_spec im l (by omega) (by omega) (fun w hw => by have := j2 w hw; omega) []
  have h32 := f32_spec im l (by omega) i3 (by omega) (fun w hw => by have := j2 w hw; omega) []
  by_cases h0 : ¬ mCheck im = 0
  · have h25 := f25_nil
    simp only [go_sem, zApply, h0, if_false] at h31 h32 h25
    simp [go_sem, h19, h28, hf, hg, hw, hR, h31, h32, h25]
  replace h0 : mCheck im = 0 := by omega
  simp only [zApply, h0, if_true] at h31 h32
  cases hr : mApply im l with
  | inl c =>
    have hs := mApply_sizes l 0 im c rfl hr
    have h25 := f25_spec c c (by have := sizes_len hs; omega) (fun v hv => by have := sizes_mem hs i2 v hv; omega) []
    simp only [go_sem, hr, decide_true] at h31 h32 h25
    simp [go_sem, h19, h28, hf, hg, hw, hR, h31, h32, h25]
  | inr r =>
    have h25 := f25_nil
    simp only [go_sem, hr] at h31 h32 h25
    simp [go_sem, h19, h28, hf, hg, hw, hR, h31, h32, h25]
end Go.Proofs.Ytlphdiccffnckaa

