/- Layer 7: images that are written. -/
import Derived.Test.YtlphdiccffnckaaImd
namespace Go.Proofs.Ytlphdiccffnckaa
open Go Go.Abs

def imgRows (u : Nat) : Nat → Img → List (List AV)
  | _, [] => []
  | k, v :: c => [.os k 0 v.length u] :: imgRows u (k + 2) c
theorem imgRows_len (u : Nat) : ∀ (c : Img) (k : Nat), (imgRows u k c).length = c.length
  | [], _ => rfl
  | v :: c, k => by simp [imgRows, imgRows_len u c]
theorem imgRows_app (u : Nat) (v : Vol) : ∀ (c : Img) (k : Nat), imgRows u k (c ++ [v]) = imgRows u k c ++ [[.os (2 * c.length + k) 0 v.length u]]
  | [], k => by simp [imgRows]
  | x :: c, k => by
    simp only [List.cons_append, imgRows, imgRows_app u v c, List.length_cons]
    rw [show 2 * c.length + (k + 2) = 2 * (c.length + 1) + k by omega]
theorem imgRows_get (u : Nat) : ∀ (c : Img) (k j : Nat) (h : j < c.length), (imgRows u k c)[j]? = some [.os (2 * j + k) 0 (c[j]).length u]
  | [], _, _, h => by simp at h
  | v :: c, k, 0, _ => by simp [imgRows]
  | v :: c, k, j + 1, h => by
    simp only [imgRows, List.getElem?_cons_succ, List.getElem_cons_succ]
    rw [imgRows_get u c (k + 2) j (by simpa using h), show 2 * j + (k + 2) = 2 * (j + 1) + k by omega]
theorem imgRows_set (u : Nat) : ∀ (c : Img) (k j : Nat) (v : Vol) (h : j < c.length), v.length = (c[j]).length → imgRows u k (c.set j v) = imgRows u k c
  | [], _, _, _, h, _ => by simp at h
  | x :: c, k, 0, v, _, hv => by simp at hv; simp [imgRows, hv]
  | x :: c, k, j + 1, v, h, hv => by
    simp only [List.set_cons_succ, imgRows]
    rw [imgRows_set u c (k + 2) j v (by simpa using h) (by simpa using hv)]

/-- An image that is written lies in the entities: entity 0 holds the volumes, the odd ones the sectors. -/
structure Holds (u : Nat) (c : Img) (H : List Ent) : Prop where
  top : H[0]? = some (.own c.length 1 (imgRows u 1 c))
  vol : ∀ j (h : j < c.length), H[2 * j + 1]? = some (.own u 8 (c[j].map secRow))
theorem get_app {H B : List Ent} {k : Nat} {e : Ent} (h : H[k]? = some e) : (H ++ B)[k]? = some e := by
  rw [List.getElem?_append_left (List.getElem?_eq_some_iff.1 h).1]; exact h
theorem Holds.app {u : Nat} {c : Img} {H : List Ent} (h : Holds u c H) (B : List Ent) : Holds u c (H ++ B) := ⟨get_app h.top, fun j hj => get_app (h.vol j hj)⟩
theorem Holds.set {u : Nat} {c : Img} {H : List Ent} (h : Holds u c H) {j : Nat} (hj : j < c.length) {v : Vol} (hv : v.length = (c[j]).length) : Holds u (c.set j v) (H.set (2 * j + 1) (.own u 8 (v.map secRow))) := by
  have hl := (List.getElem?_eq_some_iff.1 (h.vol j hj)).1
  refine ⟨?_, fun i hi => ?_⟩
  · rw [List.getElem?_set_ne (by omega), h.top, imgRows_set u c 1 j v hj hv, List.length_set]
  · simp only [List.length_set] at hi
    by_cases hij : i = j
    · subst hij
      rw [List.getElem?_set_self hl]
      simp
    · rw [List.getElem?_set_ne (by omega), h.vol i hi]
      simp [List.getElem_set_ne (Ne.symm hij)]

theorem freeze_rows {H : List Ent} {u d : Nat} : ∀ (c : Img) (k : Nat), (∀ j (h : j < c.length), H[2 * j + k]? = some (.own u 8 (c[j].map secRow))) →
    mapO (fun x => if AV.pureL x = true then some x else (mapO (AV.freeze 0 H (d + 1)) x).bind fun y => if AV.pureL y = true then some y else none) (imgRows u k c) = some (c.map fun v => [.sl false 8 (v.map secRow)])
  | [], _, _ => rfl
  | v :: c, k, h => by
    have h0 := h 0 (by simp)
    simp only [Nat.mul_zero, Nat.zero_add, List.getElem_cons_zero] at h0
    have ih := freeze_rows (d := d) c (k + 2) fun j hj => by
      have := h (j + 1) (by simpa using hj)
      rw [show 2 * (j + 1) + k = 2 * j + (k + 2) by omega] at this
      simpa using this
    simp only [imgRows, mapO_cons, mapO_nil, List.map_cons, ih, freeze_os, h0]
    simp [AV.pureL, AV.pure, pureLL_map secRow_pure, take_map_len]

theorem freeze_img {u d : Nat} {c : Img} {H : List Ent} (h : Holds u c H) : AV.freeze 0 H (d + 2) (.os 0 0 c.length c.length) = some (.sl false 1 (c.map fun v => [.sl false 8 (v.map secRow)])) := by
  unfold AV.freeze
  simp only [Nat.not_lt_zero, if_false]
  rw [snap_os, h.top]
  simp only [Nat.zero_add, true_and, imgRows_len, Nat.le_refl, if_true, Option.bind_some, List.drop_zero]
  rw [List.take_of_length_le (by rw [imgRows_len]; exact Nat.le_refl _), freeze_rows c 1 h.vol]
  rfl

theorem f103_spec (v : Vol) (H : List Ent) (hv : v ≠ []) (hl : v.length < 1000000000) (Y : List YF) :
    callS ev fs 103 [zVol v] H Y = some (.ret (.os H.length 0 v.length 1), H ++ [.own 1 8 (v.map secRow)]) := by
  refine callS_by f103_eq rfl ?_
  simp only [bodyOf, Go.Proofs.Try.f103, Option.getD_some]
  obtain ⟨x, v, rfl⟩ := List.exists_cons_of_ne_nil hv
  simp only [List.length_cons] at hl
  have hr : room (v.length + 1) 8 = true := room_ok (by omega) (by omega) (by omega)
  simp [go_sem, hr]

/-- The entities as they are made. -/
def volEnts (u : Nat) : Nat → Img → List Ent
  | _, [] => []
  | k, v :: c => .own u 8 (v.map secRow) :: .own 0 1 [[.os k 0 v.length u]] :: volEnts u (k + 2) c
theorem volEnts_len (u : Nat) : ∀ (c : Img) (k : Nat), (volEnts u k c).length = 2 * c.length
  | [], _ => rfl
  | v :: c, k => by simp [volEnts, volEnts_len u c]; omega
theorem volEnts_app (u : Nat) (v : Vol) : ∀ (c : Img) (k : Nat), volEnts u k (c ++ [v]) = volEnts u k c ++ [.own u 8 (v.map secRow), .own 0 1 [[.os (2 * c.length + k) 0 v.length u]]]
  | [], k => by simp [volEnts]
  | x :: c, k => by
    simp only [List.cons_append, volEnts, volEnts_app u v c, List.length_cons]
    rw [show 2 * c.length + (k + 2) = 2 * (c.length + 1) + k by omega]
theorem volEnts_get (u : Nat) : ∀ (c : Img) (k j : Nat) (h : j < c.length), (volEnts u k c)[2 * j]? = some (.own u 8 (c[j].map secRow))
  | [], _, _, h => by simp at h
  | v :: c, k, 0, _ => by simp [volEnts]
  | v :: c, k, j + 1, h => by
    rw [show 2 * (j + 1) = 2 * j + 1 + 1 by omega]
    simp only [volEnts, List.getElem?_cons_succ, List.getElem_cons_succ]
    exact volEnts_get u c (k + 2) j (by simpa using h)
theorem holds_made (u : Nat) (c : Img) : Holds u c (.own c.length 1 (imgRows u 1 c) :: volEnts u 1 c) := ⟨rfl, fun j h => by
  rw [List.getElem?_cons_succ]
  exact volEnts_get u c 1 j h⟩
theorem get_last {G : List Ent} {a b : Ent} {n : Nat} (h : G.length = n) : (G ++ [a, b])[n + 1]? = some b := by
  subst h
  rw [List.getElem?_append_right (by omega)]
  simp

theorem f180_spec (im : Img) (hl : im.length < 100000000) (hv : ∀ v ∈ im, v ≠ [] ∧ v.length < 1000000000) (Y : List YF) :
    ∃ H', callS ev fs 180 [zImg im, .fn 103 []] [] Y = some (.ret (.os 0 0 im.length im.length), H') ∧ Holds 1 im H' := by
  refine ⟨.own im.length 1 (imgRows 1 1 im) :: volEnts 1 1 im, ?_, holds_made 1 im⟩
  refine callS_by f180_eq rfl ?_
  simp only [bodyOf, Go.Proofs.Try.f180, Option.getD_some]
  have hroom : room im.length 24 = true := room_ok (by omega) (by omega) (by omega)
  obtain ⟨R, hR⟩ := fold_loop (E := ev) (C := callS ev fs) (Y := Y) (w := w180) (a := (loopsOf (bodyOf Go.Proofs.Try.f180))[0]?.getD .skip) (b := 0) 
    im (fun _ s x => .inl (s ++ [x])) ([] : Img) (ex := fun (r : Empty) => nomatch r)
    (fun i s st => s.length = i ∧ Live [(1, .fn 103 []), (5, .os 0 0 i i), (11, zImg im), (12, zI im.length), (13, zI i)] (.own i 1 (imgRows 1 1 s) :: volEnts 1 1 s) 0 st)
    (fun s => Live [(5, .os 0 0 im.length im.length)] (.own im.length 1 (imgRows 1 1 s) :: volEnts 1 1 s) 0) (fun r => nomatch r)
    (fun i s st hi h => by
      obtain ⟨rfl, h⟩ := h
      obtain ⟨tm, H, b⟩ := st
      simp only [bodyOf, Go.Proofs.Try.f180, Option.getD_some, loopsOf, rangesOf, List.nil_append, List.append_nil, List.cons_append, List.getElem?_cons_zero, List.getElem?_cons_succ]
      simp only [go_sem] at h
      obtain ⟨h1, h5, h11, h12, h13, rfl, rfl⟩ := h
      obtain ⟨hx, hxl⟩ := hv im[s.length] (List.getElem_mem hi)
      have hc := fun (H : List Ent) => f103_spec im[s.length] H hx hxl Y
      simp only [go_sem] at hc
      have hr : room (s.length + 1) 24 = true := room_ok (by omega) (by omega) (by omega)
      have hg := fun a b => get_last (a := a) (b := b) (volEnts_len 1 s 1)
      have hri := imgRows_len 1 s 1
      have htk : (imgRows 1 1 s).take s.length = imgRows 1 1 s := List.take_of_length_le (by omega)
      simp [go_sem, h1, h5, h11, h12, h13, hi, hc, hr, hg, hri, htk, volEnts_len, volEnts_app, imgRows_app, show s.length < 1000000000 by omega])
    (fun s st h => by
      obtain ⟨_, h⟩ := h
      obtain ⟨tm, H, b⟩ := st
      simp only [bodyOf, Go.Proofs.Try.f180, Option.getD_some, loopsOf, rangesOf, List.nil_append, List.append_nil, List.cons_append, List.getElem?_cons_zero, List.getElem?_cons_succ]
      simp only [go_sem] at h
      obtain ⟨h1, h5, h11, h12, h13, rfl, rfl⟩ := h
      simp [go_sem, h5, h12, h13])
    (fun r => nomatch r)
  simp only [bodyOf, Go.Proofs.Try.f180, Option.getD_some, loopsOf, rangesOf, List.nil_append, List.append_nil, List.cons_append, List.getElem?_cons_zero, List.getElem?_cons_succ] at hR
  rw [show (fun (_ : Nat) (s : Img) (x : Vol) => (Sum.inl (s ++ [x]) : Img ⊕ Empty)) = fun _ s x => Sum.inl (s ++ [id x]) from rfl, foldE_map] at hR
  simp [go_sem, imgRows, volEnts] at hR
  simp [go_sem, hR, hroom, show im.length ≤ 1099511627776 by omega]

theorem f98_spec (im : Img) (hl : im.length < 100000000) (hv : ∀ v ∈ im, v ≠ [] ∧ v.length < 1000000000) (Y : List YF) :
    ∃ H', callS ev fs 98 [zImg im] [] Y = some (.ret (.os 0 0 im.length im.length), H') ∧ Holds 1 im H' := by
  obtain ⟨H', h1, h2⟩ := f180_spec im hl hv Y
  refine ⟨H', ?_, h2⟩
  refine callS_by f98_eq rfl ?_
  simp only [bodyOf, Go.Proofs.Try.f98, Option.getD_some]
  simp only [go_sem] at h1
  simp [go_sem, h1]
end Go.Proofs.Ytlphdiccffnckaa
