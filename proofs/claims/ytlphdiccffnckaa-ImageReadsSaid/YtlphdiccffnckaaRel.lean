/- What the evaluator's values and entities say of the machine's values and memory, and how that is kept. -/
import Derived.Test.YtlphdiccffnckaaAbs
namespace Go.Abs

def Jmp.code : Jmp → Code
  | .ret => .ret
  | .exit id => .exit id

/-- What stands for an entity in the machine. -/
inductive EC where
  | box (b : Nat)
  | own (hdr : Value)
  | loop (l : Nat) (r : Loop)
  | dead

def EC.blk : EC → Option Nat
  | .box b => some b
  | .own (.slice (some a) _ (_ + 1)) => some a.block
  | .own _ => none
  | .loop l _ => some l
  | .dead => none

/-- Where we are: the world, the blocks that may still be written, the entities. -/
structure Cx where
  w : World
  M : Nat → Prop
  E : List EC
  H : List Ent

/-- Block b is an entity's. -/
def Cx.holds (X : Cx) (b : Nat) : Prop := ∃ (k : Nat) (e : EC), X.E[k]? = some e ∧ e.blk = some b

/-- A value that leads to memory that nobody writes. -/
inductive FRel (w : World) (M : Nat → Prop) : AV → Value → Prop
  | und (v : Value) : FRel w M .und v
  | sc (v : Value) : FRel w M (.sc v) v
  | agg {cs : List AV} {vs : Array Value} (hl : vs.size = cs.length) (h1 : ∀ (i : Nat) v, vs[i]? = some v → v.oneCell' = true) (h : ∀ (i : Nat) c v, cs[i]? = some c → vs[i]? = some v → FRel w M c v) : FRel w M (.agg cs) (.agg vs)
  | tup {cs : List AV} {vs : Array Value} (hl : vs.size = cs.length) (h : ∀ (i : Nat) c v, cs[i]? = some c → vs[i]? = some v → FRel w M c v) : FRel w M (.tup cs) (.tuple vs)
  | fn {f : Nat} {cs : List AV} {vs : Array Value} (hl : vs.size = cs.length) (h : ∀ (i : Nat) c v, cs[i]? = some c → vs[i]? = some v → FRel w M c v) : FRel w M (.fn f cs) (.func (.func f) #[] vs)
  | ifc {t : Nat} {a : AV} {v : Value} (h : FRel w M a v) : FRel w M (.ifc t a) (.iface t v)
  | slE {f : Bool} {z : Nat} {a : Option Addr} {cap : Nat} (hf : f = true → cap = 0) : FRel w M (.sl f z []) (.slice a 0 cap)
  | nsl {n : Bool} {z : Nat} {a : Option Addr} {cap : Nat} (hn : n = a.isNone) : FRel w M (.nsl n z) (.slice a 0 cap)
  | sl {f : Bool} {z : Nat} {xs : List (List AV)} {a : Addr} {cap n : Nat} (g : Nat → Nat → Value) (hn : n = xs.length) (hc : n ≤ cap) (hf : f = true → cap = n) (hs : a.spot = none)
      (hb : a.block < w.heap.size) (hM : ¬ M a.block) (hz : ∀ x ∈ xs, x.length = z)
      (hg : ∀ (i j : Nat) x c, xs[i]? = some x → x[j]? = some c → w.cell? ⟨a.block, a.off + (i * z + j), none⟩ = some (g i j))
      (h1 : ∀ (i j : Nat) x c, xs[i]? = some x → x[j]? = some c → (g i j).oneCell' = true)
      (h : ∀ (i j : Nat) x c, xs[i]? = some x → x[j]? = some c → FRel w M c (g i j)) : FRel w M (.sl f z xs) (.slice (some a) n cap)
  | fp {cs : List AV} {a : Addr} (g : Nat → Value) (hs : a.spot = none) (hb : a.block < w.heap.size) (hM : ¬ M a.block)
      (hg : ∀ (j : Nat) c, cs[j]? = some c → w.cell? ⟨a.block, a.off + j, none⟩ = some (g j))
      (h1 : ∀ (j : Nat) c, cs[j]? = some c → (g j).oneCell' = true)
      (h : ∀ (j : Nat) c, cs[j]? = some c → FRel w M c (g j)) : FRel w M (.fp cs) (.pointer (some a))

theorem cell_of_heap {w w' : World} {b o : Nat} (h : w'.heap[b]? = w.heap[b]?) : w'.cell? ⟨b, o, none⟩ = w.cell? ⟨b, o, none⟩ := by
  simp only [World.cell?, h]

theorem FRel.keep {w w' : World} {M M' : Nat → Prop} (hs : w.heap.size ≤ w'.heap.size)
    (hk : ∀ b, b < w.heap.size → ¬ M b → w'.heap[b]? = w.heap[b]? ∧ ¬ M' b) {a : AV} {v : Value} (h : FRel w M a v) : FRel w' M' a v := by
  induction h with
  | und v => exact .und v
  | sc v => exact .sc v
  | agg hl h1 _ ih => exact .agg hl h1 ih
  | tup hl _ ih => exact .tup hl ih
  | fn hl _ ih => exact .fn hl ih
  | ifc _ ih => exact .ifc ih
  | slE hf => exact .slE hf
  | nsl hn => exact .nsl hn
  | sl g hn hc hf hsp hb hM hz hg h1 _ ih =>
    exact .sl g hn hc hf hsp (Nat.lt_of_lt_of_le hb hs) (hk _ hb hM).2 hz (fun i j x c hx hc => by rw [cell_of_heap (hk _ hb hM).1]; exact hg i j x c hx hc) h1 ih
  | fp g hsp hb hM hg h1 _ ih =>
    exact .fp g hsp (Nat.lt_of_lt_of_le hb hs) (hk _ hb hM).2 (fun j c hc => by rw [cell_of_heap (hk _ hb hM).1]; exact hg j c hc) h1 ih

/-- A part of an owned slice: from element off on, len elements. -/
def SubSl (hdr : Value) (off len z : Nat) (v : Value) : Prop :=
  match hdr with
  | .slice a _ 0 => off = 0 ∧ len = 0 ∧ v = .slice a 0 0
  | .slice (some a) _ (cap + 1) => v = .slice (some ⟨a.block, off * z, none⟩) len (cap + 1 - off)
  | _ => False

/-- The version is one that the entity has or has had. -/
def okVer (H : List Ent) (k vr : Nat) : Prop := (∃ vr0 z xs, H[k]? = some (.own vr0 z xs) ∧ vr ≤ vr0) ∨ H[k]? = some .dead

/-- What a value of the evaluator's says of a value of the machine's. -/
inductive VRel (X : Cx) (L : List Nat) : AV → Value → Prop
  | frz {a : AV} {v : Value} (h : FRel X.w X.M a v) : VRel X L a v
  | agg {cs : List AV} {vs : Array Value} (hl : vs.size = cs.length) (h1 : ∀ (i : Nat) v, vs[i]? = some v → v.oneCell' = true) (h : ∀ (i : Nat) c v, cs[i]? = some c → vs[i]? = some v → VRel X L c v) : VRel X L (.agg cs) (.agg vs)
  | tup {cs : List AV} {vs : Array Value} (hl : vs.size = cs.length) (h : ∀ (i : Nat) c v, cs[i]? = some c → vs[i]? = some v → VRel X L c v) : VRel X L (.tup cs) (.tuple vs)
  | fn {f : Nat} {cs : List AV} {vs : Array Value} (hl : vs.size = cs.length) (h : ∀ (i : Nat) c v, cs[i]? = some c → vs[i]? = some v → VRel X L c v) : VRel X L (.fn f cs) (.func (.func f) #[] vs)
  | ifc {t : Nat} {a : AV} {v : Value} (h : VRel X L a v) : VRel X L (.ifc t a) (.iface t v)
  | yl {j l : Nat} (h : L[j]? = some l) : VRel X L (.yl j) (.func (.yield l) #[] #[])
  | bp {k off : Nat} {v : Value} (h1 : v.oneCell' = true) (hk : k < X.E.length) (h : ∀ b, X.E[k]? = some (.box b) → v = .pointer (some ⟨b, off, none⟩)) : VRel X L (.bp k off) v
  | bxs {k off len z : Nat} {v : Value} (h1 : v.oneCell' = true) (hk : k < X.E.length) (h : ∀ b, X.E[k]? = some (.box b) → ∃ cap, v = .slice (some ⟨b, off, none⟩) len cap ∧ len ≤ cap) : VRel X L (.bxs k off len z) v
  | os {k off len vr : Nat} {v : Value} (h1 : v.oneCell' = true) (hk : k < X.E.length) (hv : okVer X.H k vr)
      (h : ∀ z xs hdr, X.H[k]? = some (.own vr z xs) → X.E[k]? = some (.own hdr) → SubSl hdr off len z v) : VRel X L (.os k off len vr) v
  | op {k i off vr : Nat} {v : Value} (h1 : v.oneCell' = true) (hk : k < X.E.length) (hv : okVer X.H k vr)
      (h : ∀ z xs hdr, X.H[k]? = some (.own vr z xs) → X.E[k]? = some (.own hdr) → ∃ a n cap, hdr = .slice (some a) n cap ∧ v = .pointer (some ⟨a.block, i * z + off, none⟩)) : VRel X L (.op k i off vr) v

/-- What an entity says of memory. -/
def EntRel (X : Cx) : Ent → EC → Prop
  | .box cs, .box b => X.M b ∧ ∃ arr T, X.w.heap[b]? = some (.cells arr T (0, 0)) ∧ arr.size = cs.length ∧ (∀ (j : Nat) v, arr[j]? = some v → v.oneCell' = true) ∧ ∀ (j : Nat) c v, cs[j]? = some c → arr[j]? = some v → VRel X [] c v
  | .own _ z xs, .own hdr => 0 < z ∧ (∀ x ∈ xs, x.length = z) ∧ ((∃ a, hdr = .slice a 0 0 ∧ xs = []) ∨
      ∃ b cap arr T, hdr = .slice (some ⟨b, 0, none⟩) xs.length (cap + 1) ∧ X.M b ∧ X.w.heap[b]? = some (.cells arr T (0, 0)) ∧ arr.size = (cap + 1) * z ∧ xs.length ≤ cap + 1 ∧ (∀ (j : Nat) v, arr[j]? = some v → v.oneCell' = true) ∧
        ∀ (i j : Nat) x c, xs[i]? = some x → x[j]? = some c → ∃ v, arr[i * z + j]? = some v ∧ VRel X [] c v)
  | .loop st p, .loop l r => X.M l ∧ X.w.heap[l]? = some (.loop { r with state := st, pending := p.map Jmp.code })
  | .dead, .dead => True
  | _, _ => False

/-- All is in order. -/
structure Cx.Ok (X : Cx) : Prop where
  len : X.E.length = X.H.length
  bnd : ∀ b, X.M b → b < X.w.heap.size
  ent : ∀ (k : Nat) h e, X.H[k]? = some h → X.E[k]? = some e → EntRel X h e
  apart : ∀ (i j : Nat) e e' b, X.E[i]? = some e → X.E[j]? = some e' → e.blk = some b → e'.blk = some b → i = j

/-- How entity k may turn. -/
def Turns : Ent → EC → Ent → EC → Prop
  | .box _, .box b, .box _, .box b' => b = b'
  | .own vr z _, .own hdr, .own vr' z' _, .own hdr' => vr ≤ vr' ∧ z = z' ∧ (vr = vr' → hdr = hdr')
  | .own .., .own _, .dead, .dead => True
  | .box _, .box _, .dead, .dead => True
  | .loop .., .loop l r, .loop .., .loop l' r' => l = l' ∧ r = r'
  | .dead, .dead, .dead, .dead => True
  | _, _, _, _ => False

/-- Outside nothing has happened; memory has grown, if at all. -/
structure Later (w w' : World) : Prop where
  size : w.heap.size ≤ w'.heap.size
  os : w'.os = w.os
  output : w'.output = w.output
theorem Later.refl (w : World) : Later w w := ⟨Nat.le_refl _, rfl, rfl⟩
theorem Later.trans {w w' w'' : World} (a : Later w w') (b : Later w' w'') : Later w w'' := ⟨Nat.le_trans a.size b.size, b.os.trans a.os, b.output.trans a.output⟩

/-- What may happen from X to X'. -/
structure Trans (X X' : Cx) : Prop where
  later : Later X.w X'.w
  same : ∀ b, b < X.w.heap.size → ¬ X.holds b → X'.w.heap[b]? = X.w.heap[b]?
  mKeep : ∀ b, b < X.w.heap.size → X.M b → ¬ X.holds b → X'.M b
  mNew : ∀ b, X'.M b → X'.holds b ∨ (b < X.w.heap.size ∧ X.M b ∧ ¬ X.holds b)
  held : ∀ b, X'.holds b → X.holds b ∨ X.w.heap.size ≤ b
  turn : ∀ (k : Nat) h e, X.H[k]? = some h → X.E[k]? = some e → ∃ h' e', X'.H[k]? = some h' ∧ X'.E[k]? = some e' ∧ Turns h e h' e'

theorem Turns.refl {h : Ent} {e : EC} {X : Cx} (hr : EntRel X h e) : Turns h e h e := by
  cases h <;> cases e <;> simp_all [EntRel, Turns]

theorem Turns.trans {h h' h'' : Ent} {e e' e'' : EC} (a : Turns h e h' e') (b : Turns h' e' h'' e'') : Turns h e h'' e'' := by
  cases h <;> cases e <;> cases h' <;> cases e' <;> simp only [Turns] at a <;> cases h'' <;> cases e'' <;> simp only [Turns] at b ⊢
  · exact a.trans b
  · obtain ⟨a1, a2, a3⟩ := a
    obtain ⟨b1, b2, b3⟩ := b
    refine ⟨Nat.le_trans a1 b1, a2.trans b2, fun hv => ?_⟩
    exact (a3 (by omega)).trans (b3 (by omega))
  · exact ⟨a.1.trans b.1, a.2.trans b.2⟩

theorem EntRel.m {X : Cx} {h : Ent} {e : EC} {b : Nat} (hr : EntRel X h e) (hb : e.blk = some b) : X.M b := by
  cases h <;> cases e <;> simp only [EntRel] at hr
  · simp only [EC.blk, Option.some.injEq] at hb
    exact hb ▸ hr.1
  · obtain ⟨_, _, ⟨a, rfl, _⟩ | ⟨b', cap, arr, T, rfl, hm, _⟩⟩ := hr
    · cases a <;> simp [EC.blk] at hb
    · simp only [EC.blk, Option.some.injEq] at hb
      exact hb ▸ hm
  · simp only [EC.blk, Option.some.injEq] at hb
    exact hb ▸ hr.1
  · simp [EC.blk] at hb

theorem Cx.Ok.hent {X : Cx} (h : X.Ok) {k : Nat} {e : EC} (he : X.E[k]? = some e) : ∃ h', X.H[k]? = some h' ∧ EntRel X h' e := by
  obtain ⟨hk, _⟩ := List.getElem?_eq_some_iff.1 he
  have hk' : k < X.H.length := h.len ▸ hk
  exact ⟨X.H[k], List.getElem?_eq_getElem hk', h.ent k _ e (List.getElem?_eq_getElem hk') he⟩

theorem Cx.Ok.hec {X : Cx} (h : X.Ok) {k : Nat} {e : Ent} (he : X.H[k]? = some e) : ∃ e', X.E[k]? = some e' ∧ EntRel X e e' := by
  obtain ⟨hk, _⟩ := List.getElem?_eq_some_iff.1 he
  have hk' : k < X.E.length := h.len.symm ▸ hk
  exact ⟨X.E[k], List.getElem?_eq_getElem hk', h.ent k _ _ he (List.getElem?_eq_getElem hk')⟩

theorem Cx.Ok.holdsM {X : Cx} (h : X.Ok) {b : Nat} (hb : X.holds b) : X.M b := by
  obtain ⟨k, e, he, hb⟩ := hb
  obtain ⟨_, _, hr⟩ := h.hent he
  exact hr.m hb

theorem Trans.size {X X' : Cx} (t : Trans X X') : X.w.heap.size ≤ X'.w.heap.size := t.later.size

theorem Trans.refl {X : Cx} (h : X.Ok) : Trans X X where
  later := .refl _
  same := fun _ _ _ => rfl
  mKeep := fun _ _ h _ => h
  mNew := fun b hm => by
    by_cases hh : X.holds b
    · exact .inl hh
    · exact .inr ⟨h.bnd b hm, hm, hh⟩
  held := fun _ h => .inl h
  turn := fun k hh e hH hE => ⟨hh, e, hH, hE, Turns.refl (h.ent k hh e hH hE)⟩

theorem Trans.trans {X Y Z : Cx} (a : Trans X Y) (b : Trans Y Z) : Trans X Z where
  later := a.later.trans b.later
  same := fun k hk hn => by
    rw [b.same k (Nat.lt_of_lt_of_le hk a.size) (fun h => (a.held k h).elim hn (by omega))]
    exact a.same k hk hn
  mKeep := fun k hk hm hn => b.mKeep k (Nat.lt_of_lt_of_le hk a.size) (a.mKeep k hk hm hn) (fun h => (a.held k h).elim hn (by omega))
  mNew := fun k hm => by
    rcases b.mNew k hm with h | ⟨_, h2, h3⟩
    · exact .inl h
    · exact (a.mNew k h2).elim (fun h => absurd h h3) .inr
  held := fun k h => by
    rcases b.held k h with h | h
    · exact a.held k h
    · exact .inr (Nat.le_trans a.size h)
  turn := fun k h e hH hE => by
    obtain ⟨h', e', hH', hE', t⟩ := a.turn k h e hH hE
    obtain ⟨h'', e'', hH'', hE'', t'⟩ := b.turn k h' e' hH' hE'
    exact ⟨h'', e'', hH'', hE'', t.trans t'⟩

theorem Trans.mOld {X X' : Cx} (t : Trans X X') (h : X.Ok) {b : Nat} (hb : b < X.w.heap.size) (hm : X'.M b) : X.M b := by
  rcases t.mNew b hm with h1 | ⟨_, h2, _⟩
  · rcases t.held b h1 with h2 | h2
    · exact h.holdsM h2
    · omega
  · exact h2

/-- What nobody writes stays as it is. -/
theorem Trans.still {X X' : Cx} (t : Trans X X') (h : X.Ok) : ∀ b, b < X.w.heap.size → ¬ X.M b → X'.w.heap[b]? = X.w.heap[b]? ∧ ¬ X'.M b :=
  fun b hb hm => ⟨t.same b hb (fun hh => hm (h.holdsM hh)), fun hm' => hm (t.mOld h hb hm')⟩

theorem FRel.trans {X X' : Cx} (t : Trans X X') (h : X.Ok) {a : AV} {v : Value} (hr : FRel X.w X.M a v) : FRel X'.w X'.M a v :=
  hr.keep t.size (t.still h)

theorem Trans.lenE {X X' : Cx} (t : Trans X X') (h : X.Ok) : X.E.length ≤ X'.E.length := by
  by_cases hz : X.E.length = 0
  · omega
  · have hk : X.E.length - 1 < X.E.length := by omega
    have hk' : X.E.length - 1 < X.H.length := h.len ▸ hk
    obtain ⟨_, e', _, he', _⟩ := t.turn _ _ _ (List.getElem?_eq_getElem hk') (List.getElem?_eq_getElem hk)
    have := (List.getElem?_eq_some_iff.1 he').1
    omega

theorem okVer.trans {X X' : Cx} (t : Trans X X') (h : X.Ok) {k vr : Nat} (hv : okVer X.H k vr) : okVer X'.H k vr := by
  rcases hv with ⟨vr0, z, xs, hH, hle⟩ | hH
  · obtain ⟨e, hE, hr⟩ := h.hec hH
    obtain ⟨h', e', hH', hE', tt⟩ := t.turn k _ _ hH hE
    cases e <;> simp only [EntRel] at hr
    cases h' <;> cases e' <;> simp only [Turns] at tt
    · exact .inl ⟨_, _, _, hH', Nat.le_trans hle tt.1⟩
    · exact .inr hH'
  · obtain ⟨e, hE, hr⟩ := h.hec hH
    obtain ⟨h', e', hH', hE', tt⟩ := t.turn k _ _ hH hE
    cases e <;> simp only [EntRel] at hr
    cases h' <;> cases e' <;> simp only [Turns] at tt
    exact .inr hH'

/-- An owned slice that is still at a version that was there has not moved. -/
theorem Trans.hdr {X X' : Cx} (t : Trans X X') (h : X.Ok) {k vr z : Nat} {xs : List (List AV)} {hdr : Value} (hv : okVer X.H k vr)
    (hH' : X'.H[k]? = some (.own vr z xs)) (hE' : X'.E[k]? = some (.own hdr)) : ∃ xs0, X.H[k]? = some (.own vr z xs0) ∧ X.E[k]? = some (.own hdr) := by
  rcases hv with ⟨vr0, z0, xs0, hH, hle⟩ | hH
  · obtain ⟨e, hE, hr⟩ := h.hec hH
    obtain ⟨h', e', hH2, hE2, tt⟩ := t.turn k _ _ hH hE
    rw [hH'] at hH2
    rw [hE'] at hE2
    cases hH2
    cases hE2
    cases e <;> simp only [EntRel] at hr
    simp only [Turns] at tt
    obtain ⟨t1, t2, t3⟩ := tt
    have hv : vr0 = vr := by omega
    subst hv
    subst t2
    rw [← t3 rfl]
    exact ⟨xs0, hH, hE⟩
  · obtain ⟨e, hE, hr⟩ := h.hec hH
    obtain ⟨h', e', hH2, hE2, tt⟩ := t.turn k _ _ hH hE
    rw [hH'] at hH2
    rw [hE'] at hE2
    cases hH2
    cases hE2
    cases e <;> simp only [EntRel] at hr
    simp only [Turns] at tt

theorem Trans.boxBack {X X' : Cx} (t : Trans X X') (h : X.Ok) {k b : Nat} (hk : k < X.E.length) (hE' : X'.E[k]? = some (.box b)) : X.E[k]? = some (.box b) := by
  have hk' : k < X.H.length := h.len ▸ hk
  obtain ⟨h', e', hH2, hE2, tt⟩ := t.turn k _ _ (List.getElem?_eq_getElem hk') (List.getElem?_eq_getElem hk)
  rw [hE'] at hE2
  cases hE2
  have hr := h.ent k _ _ (List.getElem?_eq_getElem hk') (List.getElem?_eq_getElem hk)
  rw [List.getElem?_eq_getElem hk]
  generalize X.H[k] = h0 at *
  generalize X.E[k] = e0 at *
  cases h0 <;> cases e0 <;> simp only [EntRel] at hr <;> cases h' <;> simp only [Turns] at tt
  rw [tt]

theorem VRel.trans {X X' : Cx} (t : Trans X X') (h : X.Ok) {L : List Nat} {a : AV} {v : Value} (hr : VRel X L a v) : VRel X' L a v := by
  induction hr with
  | frz hf => exact .frz (hf.trans t h)
  | agg hl h1 _ ih => exact .agg hl h1 ih
  | tup hl _ ih => exact .tup hl ih
  | fn hl _ ih => exact .fn hl ih
  | ifc _ ih => exact .ifc ih
  | yl hl => exact .yl hl
  | bp h1 hk hb => exact .bp h1 (Nat.lt_of_lt_of_le hk (t.lenE h)) fun b hE => hb b (t.boxBack h hk hE)
  | bxs h1 hk hb => exact .bxs h1 (Nat.lt_of_lt_of_le hk (t.lenE h)) fun b hE => hb b (t.boxBack h hk hE)
  | os h1 hk hv hb =>
    refine .os h1 (Nat.lt_of_lt_of_le hk (t.lenE h)) (hv.trans t h) fun z xs hdr hH hE => ?_
    obtain ⟨xs0, h1, h2⟩ := t.hdr h hv hH hE
    exact hb z xs0 hdr h1 h2
  | op h1 hk hv hb =>
    refine .op h1 (Nat.lt_of_lt_of_le hk (t.lenE h)) (hv.trans t h) fun z xs hdr hH hE => ?_
    obtain ⟨xs0, h1, h2⟩ := t.hdr h hv hH hE
    exact hb z xs0 hdr h1 h2

theorem VRel.wider {X : Cx} {L L' : List Nat} (hL : ∀ (j l : Nat), L[j]? = some l → L'[j]? = some l) {a : AV} {v : Value} (hr : VRel X L a v) : VRel X L' a v := by
  induction hr with
  | frz hf => exact .frz hf
  | agg hl h1 _ ih => exact .agg hl h1 ih
  | tup hl _ ih => exact .tup hl ih
  | fn hl _ ih => exact .fn hl ih
  | ifc _ ih => exact .ifc ih
  | yl hl => exact .yl (hL _ _ hl)
  | bp h1 hk hb => exact .bp h1 hk hb
  | bxs h1 hk hb => exact .bxs h1 hk hb
  | os h1 hk hv hb => exact .os h1 hk hv hb
  | op h1 hk hv hb => exact .op h1 hk hv hb

theorem pureL_get {cs : List AV} (h : AV.pureL cs = true) : ∀ (i : Nat) c, cs[i]? = some c → AV.pure c = true := by
  induction cs with
  | nil => intro i c hc; simp at hc
  | cons x cs ih =>
    simp only [AV.pureL, Bool.and_eq_true] at h
    intro i c hc
    cases i with
    | zero => simp at hc; exact hc ▸ h.1
    | succ i => exact ih h.2 i c (by simpa using hc)

theorem VRel.pure {X : Cx} {L : List Nat} {a : AV} {v : Value} (hr : VRel X L a v) (hp : AV.pure a = true) : FRel X.w X.M a v := by
  induction hr with
  | frz hf => exact hf
  | agg hl h1 _ ih => exact .agg hl h1 fun i c v hc hv => ih i c v hc hv (pureL_get hp i c hc)
  | tup hl _ ih => exact .tup hl fun i c v hc hv => ih i c v hc hv (pureL_get hp i c hc)
  | fn hl _ ih => exact .fn hl fun i c v hc hv => ih i c v hc hv (pureL_get hp i c hc)
  | ifc _ ih => exact .ifc (ih hp)
  | yl hl => simp [AV.pure] at hp
  | bp h1 hk hb => simp [AV.pure] at hp
  | bxs h1 hk hb => simp [AV.pure] at hp
  | os h1 hk hv hb => simp [AV.pure] at hp
  | op h1 hk hv hb => simp [AV.pure] at hp

theorem stillL_get {cs : List AV} (h : AV.stillL cs = true) : ∀ (i : Nat) c, cs[i]? = some c → AV.still c = true := by
  induction cs with
  | nil => intro i c hc; simp at hc
  | cons x cs ih =>
    simp only [AV.stillL, Bool.and_eq_true] at h
    intro i c hc
    cases i with
    | zero => simp at hc; exact hc ▸ h.1
    | succ i => exact ih h.2 i c (by simpa using hc)

theorem VRel.calm {X : Cx} {L : List Nat} {a : AV} {v : Value} (hr : VRel X L a v) (hp : AV.still a = true) : VRel X [] a v := by
  induction hr with
  | frz hf => exact .frz hf
  | agg hl h1 _ ih => exact .agg hl h1 fun i c v hc hv => ih i c v hc hv (stillL_get hp i c hc)
  | tup hl _ ih => exact .tup hl fun i c v hc hv => ih i c v hc hv (stillL_get hp i c hc)
  | fn hl _ ih => exact .fn hl fun i c v hc hv => ih i c v hc hv (stillL_get hp i c hc)
  | ifc _ ih => exact .ifc (ih hp)
  | yl hl => simp [AV.still] at hp
  | bp h1 hk hb => exact .bp h1 hk hb
  | bxs h1 hk hb => exact .bxs h1 hk hb
  | os h1 hk hv hb => exact .os h1 hk hv hb
  | op h1 hk hv hb => exact .op h1 hk hv hb
end Go.Abs
