/- How the context may turn: new memory; an entity that is new, written, moved or dropped. -/
import Derived.Test.YtlphdiccffnckaaRel
namespace Go.Abs

theorem EntRel.trans {X X' : Cx} (t : Trans X X') (hX : X.Ok) {h : Ent} {e : EC} (hr : EntRel X h e) (hm : ∀ b, e.blk = some b → X'.M b)
    (hh : ∀ b, e.blk = some b → X'.w.heap[b]? = X.w.heap[b]?) : EntRel X' h e := by
  cases h <;> cases e <;> simp only [EntRel] at hr ⊢
  · obtain ⟨_, arr, T, h1, h2, h4, h3⟩ := hr
    exact ⟨hm _ rfl, arr, T, (hh _ rfl).trans h1, h2, h4, fun j c v hc hv => (h3 j c v hc hv).trans t hX⟩
  · obtain ⟨hz, hl, h⟩ := hr
    refine ⟨hz, hl, ?_⟩
    rcases h with h | ⟨b, cap, arr, T, rfl, _, h3, h4, h5, h7, h6⟩
    · exact .inl h
    · refine .inr ⟨b, cap, arr, T, rfl, hm _ rfl, (hh _ rfl).trans h3, h4, h5, h7, fun i j x c hx hc => ?_⟩
      obtain ⟨v, hv, hf⟩ := h6 i j x c hx hc
      exact ⟨v, hv, hf.trans t hX⟩
  · exact ⟨hm _ rfl, (hh _ rfl).trans hr.2⟩

/-- Only the world turns, and nothing that was there. -/
def Cx.at (X : Cx) (w : World) : Cx := { X with w := w }

theorem Cx.at_trans {X : Cx} (h : X.Ok) {w : World} (hs : Later X.w w) (hk : ∀ b, b < X.w.heap.size → w.heap[b]? = X.w.heap[b]?) : Trans X (X.at w) where
  later := hs
  same := fun b hb _ => hk b hb
  mKeep := fun _ _ hm _ => hm
  mNew := (Trans.refl h).mNew
  held := fun _ hh => .inl hh
  turn := (Trans.refl h).turn

theorem Cx.holds_lt {X : Cx} (h : X.Ok) {b : Nat} (hb : X.holds b) : b < X.w.heap.size := h.bnd b (h.holdsM hb)

theorem Cx.at_ok {X : Cx} (h : X.Ok) {w : World} (hs : Later X.w w) (hk : ∀ b, b < X.w.heap.size → w.heap[b]? = X.w.heap[b]?) : (X.at w).Ok where
  len := h.len
  bnd := fun b hm => Nat.lt_of_lt_of_le (h.bnd b hm) hs.size
  ent := fun k hh e hH hE => (h.ent k hh e hH hE).trans (Cx.at_trans h hs hk) h (fun b hb => (h.ent k hh e hH hE).m hb)
    (fun b hb => hk b (h.bnd b ((h.ent k hh e hH hE).m hb)))
  apart := h.apart

/-- Entity k turns. -/
def Cx.put (X : Cx) (w : World) (k : Nat) (e : EC) (h' : Ent) (e' : EC) : Cx :=
  { w := w, M := fun b => (X.M b ∧ e.blk ≠ some b) ∨ e'.blk = some b, E := X.E.set k e', H := X.H.set k h' }

section put
variable {X : Cx} {w : World} {k : Nat} {h h' : Ent} {e e' : EC}

theorem Cx.put_holds (hE : X.E[k]? = some e) {b : Nat} (hb : (X.put w k e h' e').holds b) : X.holds b ∨ e'.blk = some b := by
  obtain ⟨j, ej, hj, hbj⟩ := hb
  simp only [Cx.put, List.getElem?_set] at hj
  split at hj
  · split at hj
    · cases hj; exact .inr hbj
    · cases hj
  · exact .inl ⟨j, ej, hj, hbj⟩

theorem Cx.put_trans (hX : X.Ok) (hH : X.H[k]? = some h) (hE : X.E[k]? = some e) (hs : Later X.w w)
    (hk : ∀ b, b < X.w.heap.size → e.blk ≠ some b → w.heap[b]? = X.w.heap[b]?)
    (hn : ∀ b, e'.blk = some b → e.blk = some b ∨ X.w.heap.size ≤ b) (ht : Turns h e h' e') : Trans X (X.put w k e h' e') where
  later := hs
  same := fun b hb hnh => hk b hb (fun he => hnh ⟨k, e, hE, he⟩)
  mKeep := fun b _ hm hnh => .inl ⟨hm, fun he => hnh ⟨k, e, hE, he⟩⟩
  mNew := fun b hm => by
    have hkl := (List.getElem?_eq_some_iff.1 hE).1
    rcases hm with ⟨hm, hne⟩ | hb
    · by_cases hh : X.holds b
      · obtain ⟨j, ej, hj, hbj⟩ := hh
        refine .inl ⟨j, ej, ?_, hbj⟩
        have hjk : k ≠ j := by rintro rfl; rw [hE] at hj; cases hj; exact hne hbj
        simp only [Cx.put, List.getElem?_set, hjk, if_false]
        exact hj
      · exact .inr ⟨hX.bnd b hm, hm, hh⟩
    · exact .inl ⟨k, e', by simp [Cx.put, hkl], hb⟩
  held := fun b hb => by
    rcases Cx.put_holds hE hb with hh | hb
    · exact .inl hh
    · rcases hn b hb with h1 | h1
      · exact .inl ⟨k, e, hE, h1⟩
      · exact .inr h1
  turn := fun j hj ej hHj hEj => by
    have hkl := (List.getElem?_eq_some_iff.1 hE).1
    have hkl' := (List.getElem?_eq_some_iff.1 hH).1
    by_cases hjk : k = j
    · subst hjk
      rw [hH] at hHj
      rw [hE] at hEj
      cases hHj
      cases hEj
      exact ⟨h', e', by simp [Cx.put, hkl'], by simp [Cx.put, hkl], ht⟩
    · exact ⟨hj, ej, by simp only [Cx.put, List.getElem?_set, hjk, if_false]; exact hHj, by simp only [Cx.put, List.getElem?_set, hjk, if_false]; exact hEj, Turns.refl (hX.ent j hj ej hHj hEj)⟩

theorem Cx.put_ok (hX : X.Ok) (hH : X.H[k]? = some h) (hE : X.E[k]? = some e) (hs : Later X.w w)
    (hk : ∀ b, b < X.w.heap.size → e.blk ≠ some b → w.heap[b]? = X.w.heap[b]?)
    (hn : ∀ b, e'.blk = some b → e.blk = some b ∨ X.w.heap.size ≤ b) (hlt : ∀ b, e'.blk = some b → b < w.heap.size) (ht : Turns h e h' e')
    (hr : Trans X (X.put w k e h' e') → EntRel (X.put w k e h' e') h' e') : (X.put w k e h' e').Ok := by
  have t := Cx.put_trans hX hH hE hs hk hn ht
  have hkl := (List.getElem?_eq_some_iff.1 hE).1
  have hkl' := (List.getElem?_eq_some_iff.1 hH).1
  have other : ∀ (j : Nat) ej b, X.E[j]? = some ej → ej.blk = some b → k ≠ j → e.blk ≠ some b := fun j ej b hj hb hne he => hne (hX.apart k j e ej b hE hj he hb)
  refine ⟨by simp [Cx.put, hX.len], fun b hm => ?_, fun j hj ej hHj hEj => ?_, fun i j ei ej b hi hj hbi hbj => ?_⟩
  · rcases hm with ⟨hm, _⟩ | hb
    · exact Nat.lt_of_lt_of_le (hX.bnd b hm) hs.size
    · exact hlt b hb
  · by_cases hjk : k = j
    · subst hjk
      simp [Cx.put, hkl] at hEj
      simp [Cx.put, hkl'] at hHj
      subst hEj
      subst hHj
      exact hr t
    · simp only [Cx.put, List.getElem?_set, hjk, if_false] at hEj hHj
      have hre := hX.ent j hj ej hHj hEj
      exact hre.trans t hX (fun b hb => .inl ⟨hre.m hb, other j ej b hEj hb hjk⟩) (fun b hb => hk b (hX.bnd b (hre.m hb)) (other j ej b hEj hb hjk))
  · have new : ∀ (j : Nat) ej, (X.E.set k e')[j]? = some ej → ej.blk = some b → k ≠ j → e'.blk = some b → False := fun j ej hj hb hne hb' => by
      simp only [List.getElem?_set, hne, if_false] at hj
      rcases hn b hb' with h1 | h1
      · exact other j ej b hj hb hne h1
      · exact absurd (hX.bnd b ((hX.ent j _ ej (List.getElem?_eq_getElem (hX.len ▸ (List.getElem?_eq_some_iff.1 hj).1)) hj).m hb)) (by omega)
    by_cases hik : k = i
    · by_cases hjk : k = j
      · exact hik ▸ hjk ▸ rfl
      · subst hik
        simp [Cx.put, hkl] at hi
        subst hi
        exact (new j ej hj hbj hjk hbi).elim
    · by_cases hjk : k = j
      · subst hjk
        simp [Cx.put, hkl] at hj
        subst hj
        exact (new i ei hi hbi hik hbj).elim
      · simp only [Cx.put, List.getElem?_set, hik, hjk, if_false] at hi hj
        exact hX.apart i j ei ej b hi hj hbi hbj
end put

/-- A new entity. -/
def Cx.push (X : Cx) (w : World) (h' : Ent) (e' : EC) : Cx :=
  { w := w, M := fun b => X.M b ∨ e'.blk = some b, E := X.E ++ [e'], H := X.H ++ [h'] }

section push
variable {X : Cx} {w : World} {h' : Ent} {e' : EC}

theorem getElem?_push {α : Type} {l : List α} {x y : α} {k : Nat} (h : (l ++ [x])[k]? = some y) : l[k]? = some y ∨ (k = l.length ∧ y = x) := by
  rcases Nat.lt_trichotomy k l.length with hk | hk | hk
  · rw [List.getElem?_append_left hk] at h; exact .inl h
  · subst hk; simp at h; exact .inr ⟨rfl, h.symm⟩
  · rw [List.getElem?_eq_none (by simp; omega)] at h; cases h

theorem getElem?_old {α : Type} {l : List α} {x y : α} {k : Nat} (h : l[k]? = some y) : (l ++ [x])[k]? = some y := by
  rw [List.getElem?_append_left (List.getElem?_eq_some_iff.1 h).1]; exact h

theorem Cx.push_trans (hX : X.Ok) (hs : Later X.w w) (hk : ∀ b, b < X.w.heap.size → w.heap[b]? = X.w.heap[b]?)
    (hn : ∀ b, e'.blk = some b → X.w.heap.size ≤ b) : Trans X (X.push w h' e') where
  later := hs
  same := fun b hb _ => hk b hb
  mKeep := fun _ _ hm _ => .inl hm
  mNew := fun b hm => by
    rcases hm with hm | hb
    · rcases (Trans.refl hX).mNew b hm with ⟨j, ej, hj, hbj⟩ | h
      · exact .inl ⟨j, ej, getElem?_old hj, hbj⟩
      · exact .inr h
    · exact .inl ⟨X.E.length, e', by simp [Cx.push], hb⟩
  held := fun b hb => by
    obtain ⟨j, ej, hj, hbj⟩ := hb
    rcases getElem?_push hj with hj | ⟨_, rfl⟩
    · exact .inl ⟨j, ej, hj, hbj⟩
    · exact .inr (hn b hbj)
  turn := fun j hj ej hHj hEj => ⟨hj, ej, getElem?_old hHj, getElem?_old hEj, Turns.refl (hX.ent j hj ej hHj hEj)⟩

theorem Cx.push_ok (hX : X.Ok) (hs : Later X.w w) (hk : ∀ b, b < X.w.heap.size → w.heap[b]? = X.w.heap[b]?)
    (hn : ∀ b, e'.blk = some b → X.w.heap.size ≤ b) (hlt : ∀ b, e'.blk = some b → b < w.heap.size)
    (hr : Trans X (X.push w h' e') → EntRel (X.push w h' e') h' e') : (X.push w h' e').Ok := by
  have t := Cx.push_trans (h' := h') hX hs hk hn
  refine ⟨by simp [Cx.push, hX.len], fun b hm => ?_, fun j hj ej hHj hEj => ?_, fun i j ei ej b hi hj hbi hbj => ?_⟩
  · rcases hm with hm | hb
    · exact Nat.lt_of_lt_of_le (hX.bnd b hm) hs.size
    · exact hlt b hb
  · rcases getElem?_push hEj with hEj | ⟨rfl, rfl⟩
    · rcases getElem?_push hHj with hHj | ⟨rfl, _⟩
      · have hre := hX.ent j hj ej hHj hEj
        exact hre.trans t hX (fun b hb => .inl (hre.m hb)) (fun b hb => hk b (hX.bnd b (hre.m hb)))
      · exact absurd (List.getElem?_eq_some_iff.1 hEj).1 (by have := hX.len; omega)
    · rcases getElem?_push hHj with hHj | ⟨_, rfl⟩
      · exact absurd (List.getElem?_eq_some_iff.1 hHj).1 (by have := hX.len; omega)
      · exact hr t
  · have new : ∀ (j : Nat) ej, X.E[j]? = some ej → ej.blk = some b → e'.blk = some b → False := fun j ej hj hb hb' => by
      have h1 := hX.bnd b (hX.holdsM ⟨j, ej, hj, hb⟩)
      have h2 := hn b hb'
      omega
    rcases getElem?_push hi with hi' | ⟨hi1, hi2⟩
    · rcases getElem?_push hj with hj' | ⟨_, hj2⟩
      · exact hX.apart i j ei ej b hi' hj' hbi hbj
      · exact (new i ei hi' hbi (hj2 ▸ hbj)).elim
    · rcases getElem?_push hj with hj' | ⟨hj1, _⟩
      · exact (new j ej hj' hbj (hi2 ▸ hbi)).elim
      · omega
end push

/-- The entities from n on are dropped. -/
def Cx.cut (X : Cx) (n : Nat) : Cx :=
  { w := X.w, M := fun b => X.M b ∧ ∀ (k : Nat) e, n ≤ k → X.E[k]? = some e → e.blk ≠ some b, E := X.E.take n, H := X.H.take n }

theorem underL_get {n : Nat} {cs : List AV} (h : AV.underL n cs = true) : ∀ (i : Nat) c, cs[i]? = some c → AV.under n c = true := by
  induction cs with
  | nil => intro i c hc; simp at hc
  | cons x cs ih =>
    simp only [AV.underL, Bool.and_eq_true] at h
    intro i c hc
    cases i with
    | zero => simp at hc; exact hc ▸ h.1
    | succ i => exact ih h.2 i c (by simpa using hc)

theorem underLL_get {n : Nat} {xs : List (List AV)} (h : AV.underLL n xs = true) : ∀ (i : Nat) x, xs[i]? = some x → AV.underL n x = true := by
  induction xs with
  | nil => intro i c hc; simp at hc
  | cons x cs ih =>
    simp only [AV.underLL, Bool.and_eq_true] at h
    intro i c hc
    cases i with
    | zero => simp at hc; exact hc ▸ h.1
    | succ i => exact ih h.2 i c (by simpa using hc)

theorem take_get {α : Type} {l : List α} {n k : Nat} {x : α} (h : (l.take n)[k]? = some x) : k < n ∧ l[k]? = some x := by
  rw [List.getElem?_take] at h
  split at h
  · exact ⟨by assumption, h⟩
  · cases h

theorem get_take {α : Type} {l : List α} {n k : Nat} {x : α} (hk : k < n) (h : l[k]? = some x) : (l.take n)[k]? = some x := by
  rw [List.getElem?_take, if_pos hk]; exact h

theorem FRel.cut {X : Cx} {n : Nat} {a : AV} {v : Value} (hr : FRel X.w X.M a v) : FRel (X.cut n).w (X.cut n).M a v :=
  hr.keep (Nat.le_refl _) fun _ _ hm => ⟨rfl, fun h => hm h.1⟩

theorem okVer.cut {H : List Ent} {n k vr : Nat} (hk : k < n) (h : okVer H k vr) : okVer (H.take n) k vr := by
  rcases h with ⟨vr0, z, xs, h, hle⟩ | h
  · exact .inl ⟨vr0, z, xs, get_take hk h, hle⟩
  · exact .inr (get_take hk h)

theorem VRel.cut {X : Cx} {L : List Nat} {n : Nat} {a : AV} {v : Value} (hr : VRel X L a v) (hu : AV.under n a = true) : VRel (X.cut n) L a v := by
  induction hr with
  | frz hf => exact .frz hf.cut
  | agg hl h1 _ ih => exact .agg hl h1 fun i c v hc hv => ih i c v hc hv (underL_get hu i c hc)
  | tup hl _ ih => exact .tup hl fun i c v hc hv => ih i c v hc hv (underL_get hu i c hc)
  | fn hl _ ih => exact .fn hl fun i c v hc hv => ih i c v hc hv (underL_get hu i c hc)
  | ifc _ ih => exact .ifc (ih hu)
  | yl hl => exact .yl hl
  | bp h1 hk hb =>
    simp only [AV.under, decide_eq_true_eq] at hu
    exact .bp h1 (by simp [Cx.cut]; omega) fun b hE => hb b (take_get hE).2
  | bxs h1 hk hb =>
    simp only [AV.under, decide_eq_true_eq] at hu
    exact .bxs h1 (by simp [Cx.cut]; omega) fun b hE => hb b (take_get hE).2
  | os h1 hk hv hb =>
    simp only [AV.under, decide_eq_true_eq] at hu
    exact .os h1 (by simp [Cx.cut]; omega) (hv.cut hu) fun z xs hdr hH hE => hb z xs hdr (take_get hH).2 (take_get hE).2
  | op h1 hk hv hb =>
    simp only [AV.under, decide_eq_true_eq] at hu
    exact .op h1 (by simp [Cx.cut]; omega) (hv.cut hu) fun z xs hdr hH hE => hb z xs hdr (take_get hH).2 (take_get hE).2

theorem Cx.cut_ok {X : Cx} (hX : X.Ok) {n : Nat} (hu : ∀ (k : Nat) h, k < n → X.H[k]? = some h → Ent.under n h = true) : (X.cut n).Ok where
  len := by simp [Cx.cut, hX.len]
  bnd := fun b hm => hX.bnd b hm.1
  ent := fun k h e hH hE => by
    obtain ⟨hk, hH⟩ := take_get hH
    obtain ⟨_, hE⟩ := take_get hE
    have hr := hX.ent k h e hH hE
    have hm : ∀ b, e.blk = some b → (X.cut n).M b := fun b hb => ⟨hr.m hb, fun j ej hj hEj hbj => absurd (hX.apart k j e ej b hE hEj hb hbj) (by omega)⟩
    have hun := hu k h hk hH
    cases h <;> cases e <;> simp only [EntRel] at hr ⊢
    · obtain ⟨_, arr, T, h1, h2, h4, h3⟩ := hr
      exact ⟨hm _ rfl, arr, T, h1, h2, h4, fun j c v hc hv => (h3 j c v hc hv).cut (underL_get hun j c hc)⟩
    · obtain ⟨hz, hl, h⟩ := hr
      refine ⟨hz, hl, ?_⟩
      rcases h with h | ⟨b, cap, arr, T, rfl, _, h3, h4, h5, h7, h6⟩
      · exact .inl h
      · refine .inr ⟨b, cap, arr, T, rfl, hm _ rfl, h3, h4, h5, h7, fun i j x c hx hc => ?_⟩
        obtain ⟨v, hv, hf⟩ := h6 i j x c hx hc
        exact ⟨v, hv, hf.cut (underL_get (underLL_get hun i x hx) j c hc)⟩
    · exact ⟨hm _ rfl, hr.2⟩
  apart := fun i j e e' b hi hj => hX.apart i j e e' b (take_get hi).2 (take_get hj).2

theorem Cx.cut_holds {X : Cx} {n b : Nat} (h : (X.cut n).holds b) : X.holds b := by
  obtain ⟨k, e, hE, hb⟩ := h
  exact ⟨k, e, (take_get hE).2, hb⟩

theorem Trans.cut {X0 X : Cx} (t : Trans X0 X) {n : Nat} (hn : X0.E.length ≤ n) : Trans X0 (X.cut n) where
  later := t.later
  same := t.same
  mKeep := fun b hb hm hnh => ⟨t.mKeep b hb hm hnh, fun k e _ hE he => (t.held b ⟨k, e, hE, he⟩).elim hnh (by omega)⟩
  mNew := fun b hm => by
    rcases t.mNew b hm.1 with ⟨k, e, hE, hb⟩ | h
    · by_cases hk : k < n
      · exact .inl ⟨k, e, get_take hk hE, hb⟩
      · exact absurd hb (hm.2 k e (by omega) hE)
    · exact .inr h
  held := fun b hb => t.held b (Cx.cut_holds hb)
  turn := fun k h e hH hE => by
    obtain ⟨h', e', hH', hE', tt⟩ := t.turn k h e hH hE
    have hk : k < n := Nat.lt_of_lt_of_le (List.getElem?_eq_some_iff.1 hE).1 hn
    exact ⟨h', e', get_take hk hH', get_take hk hE', tt⟩
end Go.Abs
