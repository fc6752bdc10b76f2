/- Texts put together: Lop, Eqk, Arg, Row, Nil. -/
import Derived.Test.YtlphdiccffnckaaPad
import Derived.Laws.StructEq
import Derived.ChangeKeysEq
import GoSem.ClaimChange
import Derived.ProofKit
import Derived.Carry

/- Loops over a list, and more rules for evaluating by rewriting. -/
namespace Go.Abs

/-- A fold that may stop. -/
def foldE {α σ ρ : Type} (f : Nat → σ → α → σ ⊕ ρ) : Nat → σ → List α → σ ⊕ ρ
  | _, s, [] => .inl s
  | i, s, x :: xs => match f i s x with
    | .inl s' => foldE f (i + 1) s' xs
    | .inr r => .inr r

theorem foldE_any {α ρ : Type} (p : α → Bool) (r : ρ) : ∀ (xs : List α) (i : Nat), foldE (fun _ (_ : Unit) x => if p x = true then .inr r else .inl ()) i () xs = if xs.any p = true then .inr r else .inl ()
  | [], _ => rfl
  | x :: xs, i => by
    simp only [foldE, List.any_cons]
    by_cases h : p x = true
    · simp [h]
    · simp [h, foldE_any p r xs (i + 1)]
theorem foldE_map {α β ρ : Type} (g : α → β) : ∀ (xs : List α) (i : Nat) (s : List β), foldE (ρ := ρ) (fun _ s x => .inl (s ++ [g x])) i s xs = .inl (s ++ xs.map g)
  | [], _, s => by simp [foldE]
  | x :: xs, i, s => by simp [foldE, foldE_map g xs]
theorem foldE_fold {α σ ρ : Type} (g : σ → α → σ) : ∀ (xs : List α) (i : Nat) (s : σ), foldE (ρ := ρ) (fun _ s x => .inl (g s x)) i s xs = .inl (xs.foldl g s)
  | [], _, s => by simp [foldE]
  | x :: xs, i, s => by simp [foldE, foldE_fold g xs]
theorem foldE_idx {α : Type} (p : α → Bool) : ∀ (xs : List α) (i : Nat), foldE (ρ := Nat) (fun i (_ : Unit) x => if p x = true then .inr i else .inl ()) i () xs = match xs.findIdx? p with
    | some j => .inr (i + j)
    | none => .inl ()
  | [], _ => rfl
  | x :: xs, i => by
    simp only [foldE, List.findIdx?_cons]
    by_cases h : p x = true
    · simp [h]
    · simp only [h, Bool.false_eq_true, if_false, foldE_idx p xs (i + 1)]
      cases xs.findIdx? p <;> simp
      omega
/-- Two lists of one length, compared element by element. -/
theorem foldE_eq {α : Type} [DecidableEq α] (ys : List α) : ∀ (xs : List α) (i : Nat), xs.length + i = ys.length → foldE (ρ := Unit) (fun i (_ : Unit) x => if some x = ys[i]? then .inl () else .inr ()) i () xs = if xs = ys.drop i then .inl () else .inr ()
  | [], i, h => by rw [List.drop_of_length_le (by simp at h; omega)]; rfl
  | x :: xs, i, h => by
    have hlt : i < ys.length := by simp at h; omega
    simp only [foldE]
    rw [List.drop_eq_getElem_cons hlt, List.getElem?_eq_getElem hlt]
    by_cases hx : x = ys[i]
    · rw [if_pos (by rw [hx])]
      simp only [foldE_eq ys xs (i + 1) (by simp at h; omega), List.cons.injEq, hx, true_and]
    · rw [if_neg (by simpa using hx), if_neg (fun e => hx (List.cons.inj e).1)]

theorem foldE_app {α σ ρ : Type} (f : Nat → σ → α → σ ⊕ ρ) (ys : List α) : ∀ (xs : List α) (i : Nat) (s : σ), foldE f i s (xs ++ ys) = match foldE f i s xs with
    | .inl s' => foldE f (i + xs.length) s' ys
    | .inr r => .inr r
  | [], i, s => rfl
  | x :: xs, i, s => by
    simp only [List.cons_append, foldE]
    cases f i s x with
    | inl s' => simp only [foldE_app f ys xs (i + 1) s', List.length_cons, show i + 1 + xs.length = i + (xs.length + 1) by omega]
    | inr r => rfl
theorem foldE_zip {α β γ ρ : Type} (g : α → β → γ) (d : β) (ys : List β) : ∀ (xs : List α) (i : Nat) (s : List γ), xs.length + i = ys.length → foldE (ρ := ρ) (fun i s x => .inl (s ++ [g x ((ys[i]?).getD d)])) i s xs = .inl (s ++ List.zipWith g xs (ys.drop i))
  | [], i, s, _ => by simp [foldE]
  | x :: xs, i, s, h => by
    have hlt : i < ys.length := by simp at h; omega
    simp only [foldE]
    rw [foldE_zip g d ys xs (i + 1) _ (by simp at h; omega), List.drop_eq_getElem_cons hlt, List.getElem?_eq_getElem hlt]
    simp only [Option.getD_some, List.zipWith_cons_cons, List.append_assoc, List.singleton_append]
/-- What is known of a state. -/
def Live : List (Nat × AV) → List Ent → Nat → St → Prop
  | [], H, b, st => st.H = H ∧ st.b = b
  | p :: l, H, b, st => st.tm.get p.1 = p.2 ∧ Live l H b st
theorem live_nil {H : List Ent} {b : Nat} {st : St} : Live [] H b st ↔ st.H = H ∧ st.b = b := Iff.rfl
theorem live_cons {t : Nat} {v : AV} {l : List (Nat × AV)} {H : List Ent} {b : Nat} {st : St} : Live ((t, v) :: l) H b st ↔ st.tm.get t = v ∧ Live l H b st := Iff.rfl
/-- The same, the entities aside. -/
def LiveT : List (Nat × AV) → Nat → St → Prop
  | [], b, st => st.b = b
  | p :: l, b, st => st.tm.get p.1 = p.2 ∧ LiveT l b st
theorem liveT_nil {b : Nat} {st : St} : LiveT [] b st ↔ st.b = b := Iff.rfl
theorem liveT_cons {t : Nat} {v : AV} {l : List (Nat × AV)} {b : Nat} {st : St} : LiveT ((t, v) :: l) b st ↔ st.tm.get t = v ∧ LiveT l b st := Iff.rfl
attribute [go_sem] live_nil live_cons liveT_nil liveT_cons

section
variable {E : Env} {C : CF} {Y : List YF} {w : Words}

theorem fold_step {α σ ρ : Type} {xs : List α} {f : Nat → σ → α → σ ⊕ ρ} {a : Code} {b : Nat} {ex : ρ → Ex} {I : Nat → σ → St → Prop} {J : σ → St → Prop} {K : ρ → St → Prop} (hex : ∀ r, ex r ≠ .normal)
    (hr : ∀ i s x st, xs[i]? = some x → I i s st → match f i s x with
      | .inl s' => ∃ st', dn E C Y w a st = some (.normal, st') ∧ I (i + 1) s' st'
      | .inr r => ∃ st', dn E C Y w a st = some (ex r, st') ∧ K r st')
    (he : ∀ s st, I xs.length s st → ∃ st', dn E C Y w a st = some (.exit b, st') ∧ J s st') :
    ∀ (n i : Nat) (s : σ) (st : St), i + n = xs.length → I i s st → ∃ st', match foldE f i s (xs.drop i) with
      | .inl s' => loopC E C Y w a st = some (.exit b, st') ∧ J s' st'
      | .inr r => loopC E C Y w a st = some (ex r, st') ∧ K r st'
  | 0, i, s, st, hi, h => by
    have hi' : i = xs.length := by omega
    subst hi'
    obtain ⟨st', h1, h2⟩ := he s st h
    refine ⟨st', ?_⟩
    rw [List.drop_length]
    refine ⟨?_, h2⟩
    rw [loopC_eq, h1]
    rfl
  | n + 1, i, s, st, hi, h => by
    have hlt : i < xs.length := by omega
    have hx : xs[i]? = some xs[i] := List.getElem?_eq_getElem hlt
    have := hr i s _ st hx h
    rw [List.drop_eq_getElem_cons hlt]
    simp only [foldE]
    cases hf : f i s xs[i] with
    | inl s' =>
      rw [hf] at this
      obtain ⟨st1, h1, h2⟩ := this
      obtain ⟨st', h3⟩ := fold_step hex hr he n (i + 1) s' st1 (by omega) h2
      refine ⟨st', ?_⟩
      have : loopC E C Y w a st = loopC E C Y w a st1 := by rw [loopC_eq, h1]; rfl
      rw [this]
      exact h3
    | inr r =>
      rw [hf] at this
      obtain ⟨st1, h1, h2⟩ := this
      refine ⟨st1, ?_, h2⟩
      rw [loopC_eq, h1]
      have := hex r
      cases hr : ex r <;> first | rfl | exact absurd hr this

theorem fold_loop {α σ ρ : Type} (xs : List α) (f : Nat → σ → α → σ ⊕ ρ) (s0 : σ) {a : Code} {b : Nat} {ex : ρ → Ex} (I : Nat → σ → St → Prop) (J : σ → St → Prop) (K : ρ → St → Prop)
    (hr : ∀ i s st (hi : i < xs.length), I i s st → match f i s xs[i] with
      | .inl s' => ∃ st', dn E C Y w a st = some (.normal, st') ∧ I (i + 1) s' st'
      | .inr r => ∃ st', dn E C Y w a st = some (ex r, st') ∧ K r st')
    (he : ∀ s st, I xs.length s st → ∃ st', dn E C Y w a st = some (.exit b, st') ∧ J s st') (hex : ∀ r, ex r ≠ .normal) :
    ∃ R : St → St, ∀ st, I 0 s0 st → match foldE f 0 s0 xs with
      | .inl s' => loopC E C Y w a st = some (.exit b, R st) ∧ J s' (R st)
      | .inr r => loopC E C Y w a st = some (ex r, R st) ∧ K r (R st) := by
  have := skol (A := True) (P := I 0 s0) (Q := fun st st' => match foldE f 0 s0 xs with
      | .inl s' => loopC E C Y w a st = some (.exit b, st') ∧ J s' st'
      | .inr r => loopC E C Y w a st = some (ex r, st') ∧ K r st')
    (fun _ st h => fold_step hex (fun i s x st hx h => by
      obtain ⟨hi, rfl⟩ := List.getElem?_eq_some_iff.1 hx
      exact hr i s st hi h) he xs.length 0 s0 st (by omega) h)
  obtain ⟨R, hR⟩ := this
  exact ⟨R, fun st h => hR trivial st h⟩

@[go_sem] theorem lit_lt (k n : Nat) : ((no_index (OfNat.ofNat k) : Int) < (n : Int)) = ((OfNat.ofNat k : Nat) < n) := propext Int.ofNat_lt
@[go_sem] theorem lt_lit (k n : Nat) : ((n : Int) < (no_index (OfNat.ofNat k) : Int)) = (n < (OfNat.ofNat k : Nat)) := propext Int.ofNat_lt
@[go_sem] theorem lit_le (k n : Nat) : ((no_index (OfNat.ofNat k) : Int) ≤ (n : Int)) = ((OfNat.ofNat k : Nat) ≤ n) := propext Int.ofNat_le
@[go_sem] theorem le_lit (k n : Nat) : ((n : Int) ≤ (no_index (OfNat.ofNat k) : Int)) = (n ≤ (OfNat.ofNat k : Nat)) := propext Int.ofNat_le
@[go_sem] theorem lit_eq (k n : Nat) : ((n : Int) = (no_index (OfNat.ofNat k) : Int)) = (n = (OfNat.ofNat k : Nat)) := propext Int.ofNat_inj
variable {T : TT} {H : List Ent} {b t : Nat}
@[go_sem] theorem wrap_succ {n : Nat} (h : n < 1000000000) : IntKind.wrap .i64 ((n : Int) + 1) = (n : Int) + 1 := wrap64 (by omega)
@[go_sem] theorem wrap_cast {n : Nat} (h : n < 1000000000) : IntKind.wrap .i64 (n : Int) = (n : Int) := wrap64 (by omega)
attribute [go_sem] aBuild fillA putAt
@[go_sem] theorem append_os {own : Bool} {k len vr : Nat} {x : AV} : aAppend T own b H t (.os k 0 len vr) x = match T.elem t with
    | none => none
    | some (z, eb) => match elemsOf H z x with
      | none => none
      | some (py, ys) => match H[k]? with
        | some (.own vr' z' xs) =>
          if vr = vr' ∧ z = z' ∧ len ≤ xs.length ∧ room (len + ys.length) eb = true ∧ (k < b → AV.pureLL ys = true) then
            some (.os k 0 (len + ys.length) (vr + 1), H.set k (.own (vr + 1) z (xs.take len ++ ys)))
          else none
        | _ => none := by
  unfold aAppend
  cases T.elem t with
  | none => rfl
  | some p =>
    obtain ⟨z, eb⟩ := p
    cases elemsOf H z x with
    | none => rfl
    | some q => rfl
@[go_sem] theorem opD_append {E : Env} {C : CF} {Y : List YF} {f : Fl} {tm : Slots} (x y : Operand) (t2 : Nat) : opD E C Y f (.call { callee := .builtin .append, args := #[x, y], argTypes := #[t, t2] }) tm b H =
    if (E.T.elem t2).isSome = true then okH (aAppend E.T (f == .own) b H t (aval E.G tm x) (aval E.G tm y)) else none := rfl
@[go_sem] theorem opD_copy {E : Env} {C : CF} {Y : List YF} {f : Fl} {tm : Slots} (x y : Operand) (t2 : Nat) : opD E C Y f (.call { callee := .builtin .copy, args := #[x, y], argTypes := #[t, t2] }) tm b H =
    okH (aCopy E.T b H t (aval E.G tm x) (aval E.G tm y)) := rfl
@[go_sem] theorem opD_max {E : Env} {C : CF} {Y : List YF} {f : Fl} {tm : Slots} (x y : Operand) (ts : Array TypeId) : opD E C Y f (.call { callee := .builtin .max, args := #[x, y], argTypes := ts }) tm b H = Go.Abs.ok H (aMax2 (aval E.G tm x) (aval E.G tm y)) := rfl
@[go_sem] theorem max2 {k : IntKind} {x y : Int} : aMax2 (.sc (.int k x)) (.sc (.int k y)) = some (.sc (.int k (if y > x then y else x))) := by simp [aMax2]
@[go_sem] theorem conv_int {k : IntKind} {n : Int} {s d : Nat} : aConv T s d (.sc (.int k n)) = if (T.size s).isSome then (T.int d).map fun k => .sc (.int k (k.wrap n)) else none := rfl
@[go_sem] theorem bin_rem {k : IntKind} {x y : Int} : aBin T .rem t (.sc (.int k x)) (.sc (.int k y)) = if y = 0 then none else some (.sc (.int k (x.tmod y))) := by
  by_cases h : y = 0 <;> simp [aBin, intBin, h]
@[go_sem] theorem bin_eqb {x y : Bool} : aBin T .eql t (.sc (.bool x)) (.sc (.bool y)) = if T.bool t = true then some (.sc (.bool (x == y))) else none := rfl
@[go_sem] theorem opD_extract {E : Env} {C : CF} {Y : List YF} {f : Fl} {tm : Slots} (x : Operand) (i : Nat) : opD E C Y f (.extract x i) tm b H = match aval E.G tm x with
    | .tup vs => Go.Abs.ok H vs[i]?
    | _ => none := rfl
@[go_sem] theorem opD_buildSlice {E : Env} {C : CF} {Y : List YF} {f : Fl} {tm : Slots} (n : Nat) (ps : List (Nat × Operand)) : opD E C Y f (.buildSlice t n ⟨ps⟩) tm b H =
    match E.T.ezero t with
    | none => none
    | some zs => match slLit E.T (f == .own) t n (ps.map fun p => (p.1, aval E.G tm p.2)) zs with
      | none => none
      | some (z, xs) => if f == .own then some (.val (.os H.length 0 n 0) (H ++ [.own 0 z xs])) else some (.val (.sl false z xs) H) := rfl
@[go_sem] theorem slLit_one {own : Bool} {v : AV} {zs : List Value} : slLit T own t 1 [(0, v)] zs = match T.elem t with
    | none => none
    | some (z, _) => if zs.length = z ∧ 0 < z ∧ z ≤ 16777216 ∧ (bif own then AV.still v else AV.pure v) = true ∧ AV.storable v = true ∧ v.cells.length = z then some (z, [v.cells]) else none := by
  unfold slLit
  cases T.elem t with
  | none => rfl
  | some p =>
    obtain ⟨z, eb⟩ := p
    simp only [Nat.one_mul]
    have hps : ((bif own then AV.stillL ([(0, v)].map (·.2)) else AV.pureL ([(0, v)].map (·.2))) = true) = ((bif own then AV.still v else AV.pure v) = true) := by
      cases own <;> simp [AV.stillL, AV.pureL]
    simp only [hps]
    have hlen : (List.replicate 1 (zs.map AV.sc)).flatten.length = zs.length := by simp
    simp only [fillA, Nat.zero_mul, Nat.zero_add, hlen]
    by_cases h : zs.length = z ∧ 0 < z ∧ z ≤ 16777216 ∧ (bif own then AV.still v else AV.pure v) = true
    · rw [if_pos h]
      by_cases h2 : v.cells.length = z ∧ AV.storable v = true
      · rw [if_pos ⟨h2.1, h2.2, by omega⟩, if_pos ⟨h.1, h.2.1, h.2.2.1, h.2.2.2, h2.2, h2.1⟩]
        simp only [Option.map_some, putAt, List.take_zero, List.nil_append, Nat.zero_add]
        rw [List.drop_of_length_le (by omega), List.append_nil]
        simp [Go.Abs.chunks, ← h2.1]
      · rw [if_neg (fun hh => h2 ⟨hh.1, hh.2.1⟩), if_neg (fun hh => h2 ⟨hh.2.2.2.2.2, hh.2.2.2.2.1⟩)]
        rfl
    · rw [if_neg h, if_neg (fun hh => h ⟨hh.1, hh.2.1, hh.2.2.1, hh.2.2.2.1⟩)]
@[go_sem] theorem elems_sl {f : Bool} {z z' : Nat} {xs : List (List AV)} : elemsOf H z (.sl f z' xs) = if z = z' then some (true, xs) else none := rfl
@[go_sem] theorem elems_nil {z : Nat} : elemsOf H z (.sc (.slice none 0 0)) = some (true, []) := rfl
@[go_sem] theorem elems_os {z k off len vr : Nat} : elemsOf H z (.os k off len vr) = match snap H (.os k off len vr) with
    | some (p, z', xs) => if z = z' then some (p, xs) else none
    | none => none := rfl
@[go_sem] theorem snap_os {k off len vr : Nat} : snap H (.os k off len vr) = match H[k]? with
    | some (.own vr' z xs) => if vr = vr' ∧ off + len ≤ xs.length then some (AV.pureLL ((xs.drop off).take len), z, (xs.drop off).take len) else none
    | _ => none := rfl
@[go_sem] theorem snap_sl {f : Bool} {z : Nat} {xs : List (List AV)} : snap H (.sl f z xs) = some (true, z, xs) := rfl
theorem room_ok {n eb : Nat} (h : n ≤ 1000000000) (h0 : 0 < eb) (h1 : eb ≤ 100000) : room n eb = true := by
  unfold room
  have : n * eb ≤ 1000000000 * 100000 := Nat.mul_le_mul h h1
  simp
  omega
@[go_sem] theorem len_os {k off len vr : Nat} : aLen T H t (.os k off len vr) = match T.arr t with
    | some (n, _, _) => some (.sc (.int .i64 n))
    | none => match T.elem t with
      | none => none
      | some _ => match H[k]? with
        | some (.own vr' _ _) => if vr = vr' then some (.sc (.int .i64 len)) else none
        | _ => none := rfl
@[go_sem] theorem len_nil : aLen T H t (.sc (.slice none 0 0)) = match T.arr t with
    | some (n, _, _) => some (.sc (.int .i64 n))
    | none => match T.elem t with
      | none => none
      | some _ => some (.sc (.int .i64 0)) := rfl
@[go_sem] theorem make_own {f : Bool} {l c : Int} {zs : List Value} : aMake T f H t (.sc (.int .i64 l)) (.sc (.int .i64 c)) (some zs) = match T.elem t with
    | some (z, eb) => if 0 ≤ l ∧ l ≤ c ∧ c ≤ 1099511627776 ∧ zs.length = z ∧ 0 < z ∧ room c.toNat eb = true then
        if f = true then some (.os H.length 0 l.toNat 0, H ++ [.own 0 z (List.replicate l.toNat (zs.map .sc))])
        else if l = c then some (.sl false z (List.replicate l.toNat (zs.map .sc)), H) else none
      else none
    | none => none := by
  unfold aMake
  cases T.elem t with
  | none => rfl
  | some p => cases f <;> rfl
@[go_sem] theorem ghost_own {s z : Nat} {st : St} : ghost (.own s z) st = if isNilSl (st.tm.get s) = true ∧ 0 < z then some { st with tm := (s, .os st.H.length 0 0 0) :: st.tm, H := st.H ++ [.own 0 z []] } else none := rfl
@[go_sem] theorem isNil_nil : isNilSl (.sc (.slice none 0 0)) = true := rfl
@[go_sem] theorem call_non {E : Env} {C : CF} {Y : List YF} {g : Nat} {caps args : List AV} : aCallFn C Y .non H (.fn g caps) args =
    if (AV.pureL args && AV.pureL caps) = true then
        match C g (args ++ caps) [] [] with
        | some (.ret v, H1) => match bareRet H1 v with
          | some v' => some (.val v' H)
          | none => none
        | some (.pan v, _) => if AV.pure v = true then some (.pan v H) else none
        | none => none
      else none := rfl
@[go_sem] theorem call_cln {E : Env} {C : CF} {Y : List YF} {g z : Nat} {f : Bool} {caps : List AV} : aCallFn C Y .cln H (.fn g caps) [.sl f z []] =
    if AV.pureL caps = true then if (askEmpty C g (.nsl true z :: caps) && askEmpty C g (.nsl false z :: caps)) = true then some (.val (.sl false z []) H) else none else none := rfl
theorem call_cln_cons {C : CF} {Y : List YF} {g z : Nat} {f : Bool} {x : List AV} {xs : List (List AV)} {caps : List AV} : aCallFn C Y .cln H (.fn g caps) [.sl f z (x :: xs)] = if AV.pureL caps = true then bareCall C g (.sl f z (x :: xs) :: caps) H else none := rfl
theorem call_cln_nil {C : CF} {Y : List YF} {g : Nat} {v : Value} {caps : List AV} : aCallFn C Y .cln H (.fn g caps) [.sc v] = if AV.pureL caps = true then bareCall C g (.sc v :: caps) H else none := rfl
@[go_sem] theorem elems_nsl {n : Bool} {z z' : Nat} : elemsOf H z (.nsl n z') = if z = z' then some (true, []) else none := rfl
@[go_sem] theorem eql_nsl {n : Bool} {z : Nat} : aBin T .eql t (.nsl n z) (.sc (.slice none 0 0)) = if (T.elem t).isSome = true then some (.sc (.bool n)) else none := rfl
@[go_sem] theorem call_gen {C : CF} {Y : List YF} {g : Nat} {caps args : List AV} : aCallFn C Y .gen H (.fn g caps) args = outR (C g (args ++ caps) H Y) := rfl
@[go_sem] theorem outR_ret {v : AV} : outR (some (.ret v, H)) = some (.val v H) := rfl
theorem bareRet_pure {v : AV} (h : AV.pure v = true) : bareRet H v = some v := by unfold bareRet; rw [if_pos h]
@[go_sem] theorem bareRet_sc {v : Value} : bareRet H (.sc v) = some (.sc v) := rfl
@[go_sem] theorem bareRet_sl {f : Bool} {z : Nat} {xs : List (List AV)} : bareRet H (.sl f z xs) = some (.sl f z xs) := rfl
@[go_sem] theorem bareRet_tup {vs : List AV} (h : AV.pureL vs = true) : bareRet H (.tup vs) = some (.tup vs) := bareRet_pure (by simpa [AV.pure] using h)
@[go_sem] theorem bareRet_agg {vs : List AV} (h : AV.pureL vs = true) : bareRet H (.agg vs) = some (.agg vs) := bareRet_pure (by simpa [AV.pure] using h)
@[go_sem] theorem pureLL_nil : AV.pureLL [] = true := rfl
@[go_sem] theorem pureLL_cons {x : List AV} {xs : List (List AV)} : AV.pureLL (x :: xs) = (AV.pureL x && AV.pureLL xs) := rfl
theorem pureLL_map {α : Type} {f : α → List AV} (h : ∀ a, AV.pureL (f a) = true) : ∀ (l : List α), AV.pureLL (l.map f) = true
  | [] => rfl
  | x :: l => by simp [AV.pureLL, h x, pureLL_map h l]
theorem pureLL_app : ∀ {xs ys : List (List AV)}, AV.pureLL xs = true → AV.pureLL ys = true → AV.pureLL (xs ++ ys) = true
  | [], _, _, h => h
  | x :: xs, ys, h, h' => by
    simp only [AV.pureLL, List.cons_append, Bool.and_eq_true] at h ⊢
    exact ⟨h.1, pureLL_app h.2 h'⟩
@[go_sem] theorem index_os {k off len vr : Nat} {kk : IntKind} {j : Int} : aIndexAddr T H t (.os k off len vr) (.sc (.int kk j)) = if j < 0 then none else match T.elem t, H[k]? with
    | some (z', _), some (.own vr' z xs) => if z = z' ∧ vr = vr' ∧ j.toNat < len ∧ off + j.toNat < xs.length then some (.op k (off + j.toNat) 0 vr) else none
    | _, _ => none := rfl
@[go_sem] theorem load_op {k i off vr : Nat} : aLoad T H t (.op k i off vr) = match T.size t with
    | none => none
    | some (n, g) => match H[k]? with
      | some (.own vr' _ xs) => if vr = vr' then match xs[i]? with
        | some x => valOf n g (x.drop off)
        | none => none else none
      | _ => none := rfl
@[go_sem] theorem alive_op {k i off vr : Nat} : alive H (.op k i off vr) = match H[k]? with
    | some (.own vr' _ _) => Nat.beq vr vr'
    | _ => false := rfl
@[go_sem] theorem shift_op {k i off vr d : Nat} : (AV.op k i off vr).shift d = .op k i (off + d) vr := rfl
@[go_sem] theorem nat_beq_self (n : Nat) : Nat.beq n n = true := Nat.beq_refl n
@[go_sem] theorem store_bp {k off : Nat} {v : AV} : aStore T b H t (.bp k off) v = match T.size t with
    | none => none
    | some (n, _) => if v.cells.length = n ∧ AV.storable v = true then match H[k]? with
        | some (.box cs) => if off + n ≤ cs.length ∧ AV.still v = true ∧ (k < b → refCells v.cells (cs.drop off) = true) then some (H.set k (.box (putAt off v.cells cs))) else none
        | _ => none else none := rfl
@[go_sem] theorem store_op {k i off vr : Nat} {v : AV} : aStore T b H t (.op k i off vr) v = match T.size t with
    | none => none
    | some (n, _) => if v.cells.length = n ∧ AV.storable v = true then match H[k]? with
        | some (.own vr' z xs) => if vr = vr' then match xs[i]? with
          | some x => if off + n ≤ x.length ∧ AV.still v = true ∧ (k < b → refCells v.cells (x.drop off) = true) then some (H.set k (.own vr' z (xs.set i (putAt off v.cells x)))) else none
          | none => none else none
        | _ => none else none := rfl
@[go_sem] theorem putAt_zero {vs cs : List AV} : putAt 0 vs cs = vs ++ cs.drop vs.length := by simp [putAt]
theorem putAt_all {vs cs : List AV} (h : cs.length ≤ vs.length) : putAt 0 vs cs = vs := by simp [putAt, List.drop_of_length_le h]
@[go_sem] theorem slice_sl {f : Bool} {z : Nat} {xs : List (List AV)} {lo hi : Option AV} : aSlice T H t (.sl f z xs) lo hi none = match T.arr t with
    | some _ => none
    | none => match T.elem t with
      | none => none
      | some (z', _) => match bound 0 lo, bound xs.length hi with
        | some l, some h => if z' = z ∧ l ≤ h ∧ h ≤ xs.length then some (.sl (f && Nat.beq h xs.length) z' ((xs.drop l).take (h - l))) else none
        | _, _ => none := by
  unfold aSlice
  cases T.arr t with
  | some p =>
    obtain ⟨n, z, g⟩ := p
    simp only
    cases bound 0 lo with
    | none => rfl
    | some l => cases bound n hi <;> rfl
  | none =>
    simp only
    cases T.elem t with
    | none => rfl
    | some p =>
      obtain ⟨z', eb⟩ := p
      simp only
      cases bound 0 lo with
      | none => rfl
      | some l => cases bound xs.length hi <;> rfl
@[go_sem] theorem slice_os {k off len vr : Nat} {lo hi : Option AV} : aSlice T H t (.os k off len vr) lo hi none = match T.arr t with
    | some _ => none
    | none => match T.elem t with
      | none => none
      | some (z', _) => match H[k]? with
        | some (.own vr' z xs) => match bound 0 lo, bound len hi with
          | some l, some h => if vr = vr' ∧ z' = z ∧ l ≤ h ∧ h ≤ len ∧ off + len ≤ xs.length then
              if l = 0 then some (.os k off h vr) else if l < h then some (.os k (off + l) (h - l) vr) else some (.sl false z' []) else none
          | _, _ => none
        | _ => none := by
  unfold aSlice
  cases T.arr t with
  | some p =>
    obtain ⟨n, z, g⟩ := p
    simp only
    cases bound 0 lo with
    | none => rfl
    | some l => cases bound n hi <;> rfl
  | none =>
    simp only
    cases T.elem t with
    | none => rfl
    | some p =>
      obtain ⟨z', eb⟩ := p
      simp only
      cases H[k]? with
      | none => rfl
      | some e => cases e with
        | own vr' z xs =>
          simp only
          cases bound 0 lo with
          | none => rfl
          | some l => cases bound len hi <;> rfl
        | _ => rfl
@[go_sem] theorem bound_none {d : Nat} : bound d none = some d := rfl
@[go_sem] theorem bound_some {d : Nat} {k : IntKind} {i : Int} : bound d (some (.sc (.int k i))) = if 0 ≤ i then some i.toNat else none := rfl
@[go_sem] theorem copy_os {k off len vr : Nat} {src : AV} : aCopy T b H t (.os k off len vr) src = match T.elem t with
    | none => none
    | some (z, _) => match elemsOf H z src with
      | none => none
      | some (py, ys) => match H[k]? with
        | some (.own vr' z' xs) => if vr = vr' ∧ z = z' ∧ off + len ≤ xs.length ∧ 0 < z ∧ (k < b → AV.pureLL ys = true) then
            some (.sc (.int .i64 ((min ys.length len : Nat) : Int)), H.set k (.own vr z (xs.take off ++ overlay (ys.take len) (xs.drop off)))) else none
        | _ => none := rfl
@[go_sem] theorem slLit_none {own : Bool} {zs : List Value} : slLit T own t 0 [] zs = match T.elem t with
    | none => none
    | some (z, _) => if zs.length = z ∧ 0 < z then some (z, []) else none := by
  unfold slLit
  cases T.elem t with
  | none => rfl
  | some p =>
    obtain ⟨z, eb⟩ := p
    cases own <;> simp only [List.map_nil, AV.stillL, AV.pureL, cond_true, cond_false, Nat.zero_mul, Nat.zero_le, and_true, true_and, fillA, Option.map_some, List.replicate_zero, List.flatten_nil, Go.Abs.chunks]
@[go_sem] theorem eql_cons {f : Bool} {z : Nat} {x : List AV} {xs : List (List AV)} : aBin T .eql t (.sl f z (x :: xs)) (.sc (.slice none 0 0)) = if (T.elem t).isSome = true then some (.sc (.bool false)) else none := rfl
@[go_sem] theorem eql_nil : aBin T .eql t (.sc (.slice none 0 0)) (.sc (.slice none 0 0)) = if (T.elem t).isSome = true then some (.sc (.bool true)) else none := rfl
@[go_sem] theorem append_nil {x : AV} : aAppend T true b H t (.sc (.slice none 0 0)) x = match T.elem t with
    | none => none
    | some (z, eb) => match elemsOf H z x with
      | none => none
      | some (_, ys) => if 0 < z ∧ room ys.length eb = true then some (.os H.length 0 ys.length 0, H ++ [.own 0 z ys]) else none := by
  unfold aAppend
  cases T.elem t with
  | none => rfl
  | some p =>
    obtain ⟨z, eb⟩ := p
    simp only
    cases elemsOf H z x with
    | none => rfl
    | some q =>
      obtain ⟨py, ys⟩ := q
      simp [isNilSl]
@[go_sem] theorem append_nil_plain {x : AV} : aAppend T false b H t (.sc (.slice none 0 0)) x = match T.elem t with
    | none => none
    | some (z, eb) => match elemsOf H z x with
      | none => none
      | some (py, ys) => if 0 < z ∧ room ys.length eb = true ∧ py = true then some (.sl false z ys, H) else none := by
  unfold aAppend
  cases T.elem t with
  | none => rfl
  | some p =>
    obtain ⟨z, eb⟩ := p
    simp only
    cases elemsOf H z x with
    | none => rfl
    | some q =>
      obtain ⟨py, ys⟩ := q
      cases py <;> simp [isNilSl]
theorem freeze_row {bb d z : Nat} (l : List (List AV)) (h : AV.pureLL l = true) : mapO (fun x => if AV.pureL x = true then some x else (mapO (AV.freeze bb H d) x).bind fun y => if AV.pureL y = true then some y else none) l = some l := by
  induction l with
  | nil => rfl
  | cons x l ih =>
    simp only [AV.pureLL, Bool.and_eq_true] at h
    simp only [mapO]
    rw [if_pos h.1, ih h.2]
    rfl
theorem pureLL_take : ∀ {n : Nat} {xs : List (List AV)}, AV.pureLL xs = true → AV.pureLL (xs.take n) = true
  | 0, _, _ => rfl
  | n + 1, [], _ => rfl
  | n + 1, x :: xs, h => by
    simp only [AV.pureLL, Bool.and_eq_true, List.take_succ_cons] at h ⊢
    exact ⟨h.1, pureLL_take h.2⟩
def freezeE := AV.freeze
/-- An owned slice whose rows lead nowhere, handed back. -/
theorem freeze_os {bb k len vr d : Nat} : AV.freeze bb H (d + 1) (.os k 0 len vr) = match H[k]? with
    | some (.own vr' z xs) => if bb ≤ k ∧ vr = vr' ∧ len ≤ xs.length ∧ AV.pureLL xs = true then some (.sl false z (xs.take len)) else freezeE bb H (d + 1) (.os k 0 len vr)
    | _ => freezeE bb H (d + 1) (.os k 0 len vr) := by
  split
  · rename_i vr' z xs hH
    split
    · rename_i h
      obtain ⟨hk, rfl, hl, hp⟩ := h
      unfold AV.freeze
      simp only [if_neg (show ¬ k < bb by omega)]
      rw [snap_os, hH]
      simp only [Nat.zero_add, true_and, if_pos hl, Option.bind_some, List.drop_zero]
      rw [freeze_row (z := z) _ (pureLL_take hp)]
      rfl
    · rfl
  · rfl
@[go_sem] theorem freeze_tup {bb d : Nat} {cs : List AV} : AV.freeze bb H (d + 1) (.tup cs) = (mapO (AV.freeze bb H d) cs).map .tup := by rw [AV.freeze]
@[go_sem] theorem freeze_agg {bb d : Nat} {cs : List AV} : AV.freeze bb H (d + 1) (.agg cs) = (mapO (AV.freeze bb H d) cs).map .agg := by rw [AV.freeze]
@[go_sem] theorem freeze_sc {bb d : Nat} {v : Value} : AV.freeze bb H (d + 1) (.sc v) = some (.sc v) := by rw [AV.freeze] <;> first | rfl | simp
@[go_sem] theorem freeze_sl {bb d z : Nat} {f : Bool} {xs : List (List AV)} : AV.freeze bb H (d + 1) (.sl f z xs) = some (.sl f z xs) := by rw [AV.freeze] <;> first | rfl | simp
@[go_sem] theorem mapO_nil {α β : Type} {f : α → Option β} : mapO f [] = some [] := rfl
@[go_sem] theorem mapO_cons {α β : Type} {f : α → Option β} {x : α} {xs : List α} : mapO f (x :: xs) = (f x).bind fun y => (mapO f xs).map (y :: ·) := rfl
theorem take_map_len {α β : Type} (f : α → β) (l : List α) : (l.map f).take l.length = l.map f := List.take_of_length_le (by simp)
attribute [go_sem] take_map_len pureLL_map
/-- The ranges over functions of a piece of code: the assignment, the body. -/
def rangesOf : Code → List (Code × Code)
  | .seq a b => rangesOf a ++ rangesOf b
  | .cond _ a b => rangesOf a ++ rangesOf b
  | .block _ a => rangesOf a
  | .loop a => rangesOf a
  | .rangeFunc _ _ a b => (a, b) :: (rangesOf a ++ rangesOf b)
  | _ => []
@[go_sem ↓] theorem dn_rangeFunc {E : Env} {C : CF} {Y : List YF} {w : Words} {st : St} (f : Operand) (ps : List Nat) (a b : Code) : dn E C Y w (.rangeFunc f ⟨ps⟩ a b) st = rangeFn C Y (aval E.G st.tm f) ps (dn E C Y w a) (dn E C Y w b) st := rfl
@[go_sem] theorem call_yl {C : CF} {Y : List YF} {f : Fl} {j : Nat} {args : List AV} : aCallFn C Y f H (.yl j) args = match Y[j]? with
    | some y => outR (y args H)
    | none => none := rfl
@[go_sem] theorem ghost_ownAt {s off z : Nat} {st : St} : ghost (.ownAt s off z) st = match st.tm.get s with
    | .bp k o => match st.H[k]? with
      | some (.box cs) => match cs[o + off]? with
        | some v => if isNilSl v ∧ 0 < z ∧ st.b ≤ k then some { st with H := st.H.set k (.box (cs.set (o + off) (.os st.H.length 0 0 0))) ++ [.own 0 z []] } else none
        | none => none
      | _ => none
    | _ => none := rfl
end
end Go.Abs

/- Structs and arrays of numbers, compared. -/
namespace Go.Abs

section
variable {P : Program}

theorem part_int {e : TypeId} {k : IntKind} (hu : P.underlying e = some (.int k)) {xs : List Value} {off : Nat} {v : Value} {rest : List Value} (hx : xs.drop off = v :: rest) (w : World) : (part e xs.toArray off).run P w = .ok v w := by
  refine run_part_plain w (by simp [Program.plainKey, hu]) ?_
  have : xs[off]? = some v := by
    have h := congrArg (·[0]?) hx
    simpa using h
  simpa using this

theorem shape_cons {n : Nat} {c : Value} {cs : List Value} (h : shapeOk (List.replicate n true) ((c :: cs).map .sc) = true) : ∃ m k a, n = m + 1 ∧ c = .int k a ∧ shapeOk (List.replicate m true) (cs.map .sc) = true := by
  cases n with
  | zero => simp [shapeOk] at h
  | succ n =>
    cases c <;> simp [List.replicate_succ, shapeOk] at h
    exact ⟨n, _, _, rfl, rfl, h⟩
theorem aggEq_cons {k : IntKind} {a : Int} {cs : List AV} {ds : List Value} {r : Bool} (h : aggEq (.sc (.int k a) :: cs) (ds.map .sc) = some r) : ∃ b ds' r', ds = .int k b :: ds' ∧ aggEq cs (ds'.map .sc) = some r' ∧ r = ((a == b) && r') := by
  cases ds with
  | nil => simp [aggEq] at h
  | cons d ds =>
    simp only [List.map_cons, aggEq] at h
    obtain ⟨e, h1, h2⟩ := Option.bind_eq_some_iff.1 h
    obtain ⟨r', h3, rfl⟩ := Option.map_eq_some_iff.1 h2
    cases d <;> simp [scEq] at h1
    rename_i k' b
    obtain ⟨rfl, rfl⟩ := h1
    exact ⟨b, ds, r', rfl, h3, by simp⟩

theorem items_run {e : TypeId} {k : IntKind} (hu : P.underlying e = some (.int k)) (d : Nat) (w : World) : ∀ (cs ds : List Value) (r : Bool) (n : Nat), shapeOk (List.replicate n true) (cs.map .sc) = true → aggEq (cs.map .sc) (ds.map .sc) = some r →
    ∀ (xs ys : List Value) (i : Nat), xs.drop i = cs → ys.drop i = ds → (Op.eqItems (d + 1) e 1 xs.toArray ys.toArray (List.range' i cs.length)).run P w = .ok r w
  | [], ds, r, n, _, h, xs, ys, i, _, _ => by
    cases ds with
    | nil => simp [aggEq] at h; subst h; simp [Op.eqItems]
    | cons => simp [aggEq] at h
  | c :: cs, ds, r, n, hs, h, xs, ys, i, hx, hy => by
    obtain ⟨m, k', a, rfl, rfl, hs'⟩ := shape_cons hs
    obtain ⟨b, ds', r', rfl, h', rfl⟩ := aggEq_cons h
    have hx' : xs.drop (i + 1) = cs := by rw [← List.drop_drop, hx]; rfl
    have hy' : ys.drop (i + 1) = ds' := by rw [← List.drop_drop, hy]; rfl
    have ih := items_run hu d w cs ds' r' m hs' h' xs ys (i + 1) hx' hy'
    simp only [List.length_cons, List.range'_succ, Op.eqItems, Sem.run_bind, Nat.mul_one, part_int hu hx, part_int hu hy, Result.andThen_ok, run_equalIn_int w d e k' k a b hu]
    cases hab : a == b
    · simp
    · simp [ih]

theorem fields_run (d : Nat) (w : World) : ∀ (fs : List Field) (cs ds : List Value) (r : Bool) (n : Nat), shapeOk (List.replicate n true) (cs.map .sc) = true → aggEq (cs.map .sc) (ds.map .sc) = some r →
    ∀ (xs ys : List Value) (i : Nat), xs.drop i = cs → ys.drop i = ds → fs.length = cs.length → (∀ (j : Nat) f, fs[j]? = some f → f.offset = i + j ∧ f.name ≠ "_" ∧ ∃ k, P.underlying f.type = some (.int k)) →
    (Op.eqFields (d + 1) xs.toArray ys.toArray fs).run P w = .ok r w
  | [], [], ds, r, n, _, h, xs, ys, i, _, _, _, _ => by
    cases ds with
    | nil => simp [aggEq] at h; subst h; simp [Op.eqFields]
    | cons => simp [aggEq] at h
  | [], _ :: _, _, _, _, _, _, _, _, _, _, _, hl, _ => by simp at hl
  | _ :: _, [], _, _, _, _, _, _, _, _, _, _, hl, _ => by simp at hl
  | f :: fs, c :: cs, ds, r, n, hs, h, xs, ys, i, hx, hy, hl, hf => by
    obtain ⟨m, k', a, rfl, rfl, hs'⟩ := shape_cons hs
    obtain ⟨b, ds', r', rfl, h', rfl⟩ := aggEq_cons h
    obtain ⟨ho, hn, k, hu⟩ := hf 0 f rfl
    have hx' : xs.drop (i + 1) = cs := by rw [← List.drop_drop, hx]; rfl
    have hy' : ys.drop (i + 1) = ds' := by rw [← List.drop_drop, hy]; rfl
    have ih := fields_run d w fs cs ds' r' m hs' h' xs ys (i + 1) hx' hy' (by simpa using hl) (fun j f hj => by
      obtain ⟨q1, q2⟩ := hf (j + 1) f (by simpa using hj)
      exact ⟨by omega, q2⟩)
    rw [Nat.add_zero] at ho
    simp only [Op.eqFields, if_pos hn, Sem.run_bind, ho, part_int hu hx, part_int hu hy, Result.andThen_ok, run_equalIn_int w d f.type k' k a b hu]
    cases hab : a == b
    · simp
    · simp [ih]

theorem eqok_array {t e n : Nat} {k : IntKind} {i : TypeInfo} (hu : P.underlying t = some (.array n e)) (hi : P.info? e = some i) (hs : P.cellsOf e = 1) (he : P.underlying e = some (.int k)) (hg : P.eqGuardType P.depth t = false) (cs ds : List Value) (r : Bool) (w : World)
    (h : shapeOk (List.replicate n true) (cs.map .sc) = true) (h' : aggEq (cs.map .sc) (ds.map .sc) = some r) : P.eqGuardType P.depth t = false ∧ (Op.equal t (.agg cs.toArray) (.agg ds.toArray)).run P w = .ok r w := by
  refine ⟨hg, ?_⟩
  have hlen : ∀ (cs : List Value) n, shapeOk (List.replicate n true) (cs.map .sc) = true → cs.length = n := by
    intro cs
    induction cs with
    | nil => intro n h; cases n with
      | zero => rfl
      | succ n => simp [List.replicate_succ, shapeOk] at h
    | cons c cs ih =>
      intro n h
      obtain ⟨m, _, _, rfl, _, h2⟩ := shape_cons h
      simp [ih m h2]
  show (Op.equalIn (9999 + 1) t (.agg cs.toArray) (.agg ds.toArray)).run P w = _
  rw [run_equalIn_array w 9999 _ _ hu hi, hs]
  have := items_run he 9998 w cs ds r n h h' cs ds 0 rfl rfl
  rwa [hlen cs n h, ← List.range_eq_range'] at this

theorem eqok_struct {t n : Nat} {fs : Array Field} (hu : P.underlying t = some (.struct fs)) (hp : P.stoodInHeld t = false) (hl : fs.toList.length = n) (hf : ∀ (j : Nat) f, fs.toList[j]? = some f → f.offset = j ∧ f.name ≠ "_" ∧ ∃ k, P.underlying f.type = some (.int k))
    (hg : P.eqGuardType P.depth t = false) (cs ds : List Value) (r : Bool) (w : World)
    (h : shapeOk (List.replicate n true) (cs.map .sc) = true) (h' : aggEq (cs.map .sc) (ds.map .sc) = some r) : P.eqGuardType P.depth t = false ∧ (Op.equal t (.agg cs.toArray) (.agg ds.toArray)).run P w = .ok r w := by
  refine ⟨hg, ?_⟩
  have hlen : ∀ (cs : List Value) n, shapeOk (List.replicate n true) (cs.map .sc) = true → cs.length = n := by
    intro cs
    induction cs with
    | nil => intro n h; cases n with
      | zero => rfl
      | succ n => simp [List.replicate_succ, shapeOk] at h
    | cons c cs ih =>
      intro n h
      obtain ⟨m, _, _, rfl, _, h2⟩ := shape_cons h
      simp [ih m h2]
  have hfo : P.fieldsOf t = fs := by simp [Program.fieldsOf, hu]
  show (Op.equalIn (9999 + 1) t (.agg cs.toArray) (.agg ds.toArray)).run P w = _
  rw [run_equalIn_struct w 9999 t _ _ (by rw [hfo]; exact hu) hp, hfo]
  exact fields_run 9998 w fs.toList cs ds r n h h' cs ds 0 rfl rfl (by rw [hl, hlen cs n h]) (fun j f hj => by
    obtain ⟨q1, q2⟩ := hf j f hj
    exact ⟨by omega, q2⟩)
def okFields (P : Program) : Nat → List Field → Bool
  | _, [] => true
  | i, f :: fs => Nat.beq f.offset i && !(f.name == "_") && (match P.underlying f.type with
    | some (.int _) => true
    | _ => false) && okFields P (i + 1) fs
theorem okFields_spec : ∀ (fs : List Field) (i : Nat), okFields P i fs = true → ∀ (j : Nat) f, fs[j]? = some f → f.offset = i + j ∧ f.name ≠ "_" ∧ ∃ k, P.underlying f.type = some (.int k)
  | [], _, _, _, _, h => by simp at h
  | f :: fs, i, h, j, g, hg => by
    simp only [okFields, Bool.and_eq_true] at h
    obtain ⟨⟨⟨h1, h2⟩, h3⟩, h4⟩ := h
    cases j with
    | zero =>
      simp at hg
      subst hg
      refine ⟨Nat.eq_of_beq_eq_true h1, by simpa using h2, ?_⟩
      split at h3
      · exact ⟨_, by assumption⟩
      · cases h3
    | succ j =>
      obtain ⟨q1, q2⟩ := okFields_spec fs (i + 1) h4 j g (by simpa using hg)
      exact ⟨by omega, q2⟩
theorem eqok_struct' {t n : Nat} {fs : Array Field} (hu : P.underlying t = some (.struct fs)) (hp : P.stoodInHeld t = false) (hl : Nat.beq fs.toList.length n = true) (hf : okFields P 0 fs.toList = true)
    (hg : P.eqGuardType P.depth t = false) (cs ds : List Value) (r : Bool) (w : World)
    (h : shapeOk (List.replicate n true) (cs.map .sc) = true) (h' : aggEq (cs.map .sc) (ds.map .sc) = some r) : P.eqGuardType P.depth t = false ∧ (Op.equal t (.agg cs.toArray) (.agg ds.toArray)).run P w = .ok r w :=
  eqok_struct hu hp (Nat.eq_of_beq_eq_true hl) (fun j f hj => by
    obtain ⟨q1, q2⟩ := okFields_spec _ 0 hf j f hj
    exact ⟨by omega, q2⟩) hg cs ds r w h h'
end
end Go.Abs

/- Reading arguments. -/
namespace Go.Abs

/-- What is read at this type is related to what stands for one of these values. -/
def Rd {H : Type} (e0 : TypeId × Value → H) (P : Program) (W : World) (t : Nat) {A : Type} (en : A → List AV) (good : A → Prop) : Prop :=
  ∀ fuel cs d ps, DataW.trod e0 P W 0 (fun _ => true) true fuel t cs = some (d, ps) →
    ∃ a, good a ∧ (en a).length = cs.length ∧ ∀ (j : Nat) c v, (en a)[j]? = some c → cs[j]? = some v → FRel W (fun _ => False) c v ∧ v.oneCell' = true

section
variable {H : Type} {e0 : TypeId × Value → H} {P : Program} {W : World} {t : Nat}

theorem Rd.one {A : Type} {en : A → AV} {good : A → Prop} (h : ∀ fuel cs d ps, DataW.trod e0 P W 0 (fun _ => true) true fuel t cs = some (d, ps) → ∃ a v, good a ∧ cs = [v] ∧ FRel W (fun _ => False) (en a) v ∧ v.oneCell' = true) :
    Rd e0 P W t (fun a => [en a]) good := by
  intro fuel cs d ps hr
  obtain ⟨a, v, h1, rfl, h2, h3⟩ := h fuel cs d ps hr
  refine ⟨a, h1, rfl, fun j c u hc hu => ?_⟩
  cases j with
  | zero => simp at hc hu; subst hc; subst hu; exact ⟨h2, h3⟩
  | succ j => simp at hc

theorem Rd.int {k : IntKind} (hu : P.underlying t = some (.int k)) : Rd e0 P W t (fun n : Int => [.sc (.int k n)]) (fun n => k.min ≤ n ∧ n ≤ k.max) := by
  refine Rd.one (en := fun n : Int => .sc (.int k n)) fun fuel cs d ps h => ?_
  cases fuel with
  | zero => simp [DataW.trod] at h
  | succ fuel =>
    match cs with
    | [] => simp [DataW.trod, hu] at h
    | _ :: _ :: _ => simp [DataW.trod, hu] at h
    | [v] =>
      cases v <;> simp [DataW.trod, hu] at h
      rename_i k' n
      obtain ⟨⟨rfl, hw⟩, _⟩ := h
      simp [Lit.wf] at hw
      exact ⟨n, _, hw, rfl, .sc _, rfl⟩

theorem Rd.bool (hu : P.underlying t = some .bool) : Rd e0 P W t (fun b : Bool => [.sc (.bool b)]) (fun _ => True) := by
  refine Rd.one (en := fun b : Bool => .sc (.bool b)) fun fuel cs d ps h => ?_
  cases fuel with
  | zero => simp [DataW.trod] at h
  | succ fuel =>
    match cs with
    | [] => simp [DataW.trod, hu] at h
    | _ :: _ :: _ => simp [DataW.trod, hu] at h
    | [v] =>
      cases v <;> simp [DataW.trod, hu] at h
      rename_i b
      exact ⟨b, _, trivial, rfl, .sc _, rfl⟩

theorem mapM_opt {α β : Type} {f : α → Option β} : ∀ {l : List α} {r : List β}, l.mapM f = some r → r.length = l.length ∧ ∀ (i : Nat) x, l[i]? = some x → ∃ y, r[i]? = some y ∧ f x = some y
  | [], r, h => by simp at h; subst h; simp
  | x :: l, r, h => by
    simp only [List.mapM_cons, Option.bind_eq_bind, Option.bind_eq_some_iff] at h
    obtain ⟨y, h1, r', h2, h3⟩ := h
    simp only [Option.pure_def, Option.some.injEq] at h3
    subst h3
    obtain ⟨h4, h5⟩ := mapM_opt h2
    refine ⟨by simp [h4], fun i z hz => ?_⟩
    cases i with
    | zero => simp at hz; subst hz; exact ⟨y, rfl, h1⟩
    | succ i => simpa using h5 i z (by simpa using hz)

theorem listOf {A : Type} {Q : Nat → A → Prop} : ∀ (n : Nat), (∀ i, i < n → ∃ x, Q i x) → ∃ l : List A, l.length = n ∧ ∀ (i : Nat) x, l[i]? = some x → Q i x
  | 0, _ => ⟨[], rfl, fun i x h => by simp at h⟩
  | n + 1, h => by
    obtain ⟨l, h1, h2⟩ := listOf n fun i hi => h i (by omega)
    obtain ⟨x, hx⟩ := h n (by omega)
    refine ⟨l ++ [x], by simp [h1], fun i y hy => ?_⟩
    rcases getElem?_push hy with hy | ⟨hi, rfl⟩
    · exact h2 i y hy
    · rw [hi, h1]; exact hx

theorem Rd.slice {e z : Nat} (hu : P.underlying t = some (.slice e)) (hz : P.cellsOf e = z) (hpos : 0 < z) {A : Type} {en : A → List AV} {good : A → Prop} (he : Rd e0 P W e en good) (hl : ∀ a, good a → (en a).length = z) :
    Rd e0 P W t (fun l : List A => [.sl false z (l.map en)]) (fun l => l.length ≤ maxLen ∧ ∀ a ∈ l, good a) := by
  refine Rd.one (en := fun l : List A => .sl false z (l.map en)) fun fuel cs d ps h => ?_
  cases fuel with
  | zero => simp [DataW.trod] at h
  | succ fuel =>
    match cs with
    | [] => simp [DataW.trod, hu] at h
    | _ :: _ :: _ => simp [DataW.trod, hu] at h
    | [v] =>
      cases v with
      | slice a len cap =>
        cases a with
        | none =>
          cases len with
          | zero =>
            cases cap with
            | zero => exact ⟨[], _, ⟨by simp, by simp⟩, rfl, .slE (by simp), rfl⟩
            | succ cap => simp [DataW.trod, hu] at h
          | succ len => simp [DataW.trod, hu] at h
        | some ad =>
          simp only [DataW.trod, hu, hz] at h
          split at h
          · rename_i hc
            obtain ⟨elems, h1, h2⟩ := Option.bind_eq_some_iff.1 h
            obtain ⟨h3, h4⟩ := mapM_opt h1
            have hel : ∀ i, i < len → ∃ x, good x ∧ ∀ j, j < z → ∃ u, W.cell? ((ad.add (i * z)).add j) = some u ∧ u.oneCell' = true ∧ ∀ c, (en x)[j]? = some c → FRel W (fun _ => False) c u := by
              intro i hi
              obtain ⟨y, _, hy⟩ := h4 i i (by simp [hi])
              obtain ⟨row, hrow, hy⟩ := Option.bind_eq_some_iff.1 hy
              obtain ⟨x, hg, hlen, hcell⟩ := he fuel row y.1 y.2 hy
              simp only [World.cells?, Nat.zero_le, if_true] at hrow
              obtain ⟨r1, r2⟩ := mapM_opt hrow
              refine ⟨x, hg, fun j hj => ?_⟩
              obtain ⟨u, hu1, hu2⟩ := r2 j j (by simp [hj])
              have hlt : j < (en x).length := by rw [hl x hg]; exact hj
              have := hcell j (en x)[j] u (List.getElem?_eq_getElem hlt) hu1
              exact ⟨u, hu2, this.2, fun c hc => by rw [List.getElem?_eq_getElem hlt] at hc; cases hc; exact this.1⟩
            obtain ⟨l, hll, hlq⟩ := listOf len hel
            have hgood : ∀ a ∈ l, good a := fun a ha => by
              obtain ⟨i, hi⟩ := List.mem_iff_getElem?.1 ha
              exact (hlq i a hi).1
            refine ⟨l, _, ⟨by omega, hgood⟩, rfl, ?_, rfl⟩
            by_cases h0 : len = 0
            · have : l = [] := List.eq_nil_of_length_eq_zero (by omega)
              subst this
              subst h0
              exact .slE (by simp)
            · have hx0 : l[0]? = some (l[0]'(by omega)) := List.getElem?_eq_getElem _
              obtain ⟨u, hu0, _⟩ := (hlq 0 _ hx0).2 0 hpos
              have hsp : ad.spot = none := by simpa [Addr.add] using World.cell?_spot hu0
              have hadd : ∀ i j, (ad.add (i * z)).add j = ⟨ad.block, ad.off + (i * z + j), none⟩ := by
                intro i j
                obtain ⟨b, off, sp⟩ := ad
                simp only at hsp
                subst hsp
                unfold Addr.add
                split <;> split <;> simp <;> omega
              have hb : ad.block < W.heap.size := by
                rw [hadd] at hu0
                simp only [World.cell?] at hu0
                cases hh : W.heap[ad.block]? with
                | none => simp [hh] at hu0
                | some o => exact (Array.getElem?_eq_some_iff.1 hh).1
              have key : ∀ (i j : Nat) x c, (l.map en)[i]? = some x → x[j]? = some c → ∃ u, W.cell? ⟨ad.block, ad.off + (i * z + j), none⟩ = some u ∧ u.oneCell' = true ∧ FRel W (fun _ => False) c u := by
                intro i j x c hx hc
                rw [List.getElem?_map] at hx
                obtain ⟨a, ha, rfl⟩ := Option.map_eq_some_iff.1 hx
                obtain ⟨q1, q2⟩ := hlq i a ha
                have hj : j < z := by rw [← hl a q1]; exact (List.getElem?_eq_some_iff.1 hc).1
                obtain ⟨u, u1, u2, u3⟩ := q2 j hj
                exact ⟨u, by rw [← hadd]; exact u1, u2, u3 c hc⟩
              refine .sl (fun i j => (W.cell? ⟨ad.block, ad.off + (i * z + j), none⟩).getD undef) (by simp [hll]) hc.2.1 (by simp) hsp hb (fun h => h) (fun x hx => ?_) (fun i j x c hx hc => ?_) (fun i j x c hx hc => ?_) (fun i j x c hx hc => ?_)
              · obtain ⟨a, ha, rfl⟩ := List.mem_map.1 hx
                exact hl a (hgood a ha)
              · obtain ⟨u, u1, _⟩ := key i j x c hx hc
                rw [u1]; rfl
              · obtain ⟨u, u1, u2, _⟩ := key i j x c hx hc
                simp only [u1, Option.getD_some]; exact u2
              · obtain ⟨u, u1, _, u3⟩ := key i j x c hx hc
                simp only [u1, Option.getD_some]; exact u3
          · cases h
      | _ => simp [DataW.trod, hu] at h

/-- Cells that are related, one by one. -/
def CR (W : World) (aas : List AV) (vs : List Value) : Prop := aas.length = vs.length ∧ ∀ (j : Nat) c v, aas[j]? = some c → vs[j]? = some v → FRel W (fun _ => False) c v ∧ v.oneCell' = true

theorem CR.append {aas bs : List AV} {vs ws : List Value} (h : CR W aas vs) (h' : CR W bs ws) : CR W (aas ++ bs) (vs ++ ws) := by
  refine ⟨by simp [h.1, h'.1], fun j c v hc hv => ?_⟩
  rcases Nat.lt_or_ge j aas.length with hj | hj
  · rw [List.getElem?_append_left hj] at hc
    rw [List.getElem?_append_left (by rw [← h.1]; exact hj)] at hv
    exact h.2 j c v hc hv
  · rw [List.getElem?_append_right hj] at hc
    rw [List.getElem?_append_right (by rw [← h.1]; exact hj), ← h.1] at hv
    exact h'.2 _ c v hc hv

theorem Rd.array {n e z : Nat} (hu : P.underlying t = some (.array n e)) (hz : P.cellsOf e = z) (hs : P.cellsOf t = n * z) {A : Type} {en : A → List AV} {good : A → Prop} (he : Rd e0 P W e en good) :
    Rd e0 P W t (fun l : List A => l.flatMap en) (fun l => l.length = n ∧ ∀ a ∈ l, good a) := by
  intro fuel cs d ps h
  cases fuel with
  | zero => simp [DataW.trod] at h
  | succ fuel =>
    simp only [DataW.trod, hu] at h
    split at h
    · rename_i hlen
      obtain ⟨xs, hxs, _⟩ := Option.map_eq_some_iff.1 h
      obtain ⟨_, h2⟩ := mapM_opt hxs
      have hel : ∀ i, i < n → ∃ x, good x ∧ CR W (en x) ((cs.drop (i * z)).take z) := by
        intro i hi
        obtain ⟨y, _, hy⟩ := h2 i i (by simp [hi])
        rw [hz] at hy
        obtain ⟨x, q1, q2, q3⟩ := he fuel _ y.1 y.2 hy
        exact ⟨x, q1, q2, q3⟩
      have main : ∀ m, m ≤ n → ∃ l : List A, l.length = m ∧ (∀ a ∈ l, good a) ∧ CR W (l.flatMap en) (cs.take (m * z)) := by
        intro m
        induction m with
        | zero => exact fun _ => ⟨[], rfl, by simp, by simp [CR]⟩
        | succ m ih =>
          intro hm
          obtain ⟨l, l1, l2, l3⟩ := ih (by omega)
          obtain ⟨x, x1, x2⟩ := hel m (by omega)
          refine ⟨l ++ [x], by simp [l1], fun a ha => ?_, ?_⟩
          · rcases List.mem_append.1 ha with ha | ha
            · exact l2 a ha
            · cases List.mem_singleton.1 ha; exact x1
          · rw [List.flatMap_append, Nat.succ_mul, List.take_add]
            simpa using l3.append x2
      obtain ⟨l, l1, l2, l3⟩ := main n (Nat.le_refl _)
      rw [← hs, ← hlen, List.take_length] at l3
      exact ⟨l, ⟨l1, l2⟩, l3.1, l3.2⟩
    · cases h

/-- Some fields of a struct, one behind the other from a place on. -/
def RdF {H : Type} (e0 : TypeId × Value → H) (P : Program) (W : World) (fs : List Field) (off : Nat) {A : Type} (en : A → List AV) (good : A → Prop) (size : Nat) : Prop :=
  ∀ fuel (cs : List Value) xs, fs.mapM (fun f => DataW.trod e0 P W 0 (fun _ => true) true fuel f.type ((cs.drop f.offset).take (P.cellsOf f.type))) = some xs →
    ∃ a, good a ∧ CR W (en a) ((cs.drop off).take size)

theorem RdF.nil {off : Nat} : RdF e0 P W [] off (fun _ : Unit => []) (fun _ => True) 0 := fun fuel cs xs h => ⟨(), trivial, by simp [CR]⟩

theorem RdF.cons {f : Field} {fs : List Field} {off z n : Nat} (ho : f.offset = off) (hz : P.cellsOf f.type = z) {A B : Type} {en : A → List AV} {good : A → Prop} {en' : B → List AV} {good' : B → Prop}
    (hf : Rd e0 P W f.type en good) (hr : RdF e0 P W fs (off + z) en' good' n) : RdF e0 P W (f :: fs) off (fun p : A × B => en p.1 ++ en' p.2) (fun p => good p.1 ∧ good' p.2) (z + n) := by
  intro fuel cs xs h
  simp only [List.mapM_cons, Option.bind_eq_bind, Option.bind_eq_some_iff] at h
  obtain ⟨y, h1, r', h2, h3⟩ := h
  rw [ho, hz] at h1
  obtain ⟨a, a1, a2, a3⟩ := hf fuel _ y.1 y.2 h1
  obtain ⟨b, b1, b2⟩ := hr fuel cs r' h2
  refine ⟨(a, b), ⟨a1, b1⟩, ?_⟩
  rw [List.take_add]
  refine CR.append ⟨a2, a3⟩ ?_
  rw [List.drop_drop]
  exact b2

theorem Rd.struct {fs : Array Field} {n : Nat} (hu : P.underlying t = some (.struct fs)) (hs : P.cellsOf t = n) {A : Type} {en : A → List AV} {good : A → Prop} (h : RdF e0 P W fs.toList 0 en good n) : Rd e0 P W t en good := by
  intro fuel cs d ps hd
  cases fuel with
  | zero => simp [DataW.trod] at hd
  | succ fuel =>
    simp only [DataW.trod, hu] at hd
    split at hd
    · rename_i hlen
      obtain ⟨xs, hxs, _⟩ := Option.map_eq_some_iff.1 hd
      obtain ⟨a, a1, a2⟩ := h fuel cs xs hxs
      rw [hs] at hlen
      rw [List.drop_zero, ← hlen, List.take_length] at a2
      exact ⟨a, a1, a2.1, a2.2⟩
    · cases hd

/-- Another way to put it. -/
theorem Rd.map {A B : Type} {en : A → List AV} {good : A → Prop} {en' : B → List AV} {good' : B → Prop} (h : Rd e0 P W t en good) (f : A → B) (hg : ∀ a, good a → good' (f a)) (he : ∀ a, good a → en' (f a) = en a) : Rd e0 P W t en' good' := by
  intro fuel cs d ps hd
  obtain ⟨a, a1, a2, a3⟩ := h fuel cs d ps hd
  exact ⟨f a, hg a a1, by rw [he a a1]; exact a2, by rw [he a a1]; exact a3⟩
end
end Go.Abs

/- From the evaluator to a row. -/
namespace Go.Abs
open Go.ChangeShapes Go.WideShapes Go.ChangeAt Go.RowKit

section
variable {H : Type} {enc : TypeId × Value → H} {P : Program}

theorem trodAll_stays (hl : laidOutB P = true) {W W' : World} {sp : Nat → Bool} (hsame : ∀ b, b < W.heap.size → W'.heap[b]? = W.heap[b]?) : ∀ {ts : List TypeId} {vs : List Value} {ds : List (DataW H)} {ps : List MemPlace},
    (∀ t ∈ ts, P.readableRec t = true ∧ t < P.types.size) → DataW.TrodAll enc P W 0 (fun _ => true) true ts vs ds ps → (∀ p ∈ ps, p.block < W.heap.size) → (∀ p ∈ ps, sp p.block = true) → DataW.TrodAll enc P W' 0 sp true ts vs ds ps
  | [], [], [], _, _, h, _, _ => h
  | t :: ts, v :: vs, d :: ds, ps, ht, h, hlt, hsp => by
    obtain ⟨p, q, h1, h2, rfl⟩ := h
    obtain ⟨r1, r2⟩ := ht t (List.mem_cons_self ..)
    refine ⟨p, q, ?_, trodAll_stays hl hsame (fun t h => ht t (List.mem_cons_of_mem _ h)) h2 (fun x hx => hlt x (List.mem_append_right _ hx)) (fun x hx => hsp x (List.mem_append_right _ hx)), rfl⟩
    refine WideElems.Trod_stays hl r1 r2 h1 (fun x hx => ?_) (fun x hx => hsp x (List.mem_append_left _ hx))
    have hb := hsame x.block (hlt x (List.mem_append_left _ hx))
    cases x with
    | cell b off => simp only [World.sameAt, World.cell?]; rw [show W'.heap[b]? = W.heap[b]? from hb]
    | map b => exact hb
  | [], _ :: _, _, _, _, h, _, _ => h.elim
  | [], [], _ :: _, _, _, h, _, _ => h.elim
  | _ :: _, [], _, _, _, h, _, _ => h.elim
  | _ :: _, _ :: _, [], _, _, h, _, _ => h.elim

theorem keptBut_same {W W' : World} (hl : Later W W') (hsame : ∀ b, b < W.heap.size → W'.heap[b]? = W.heap[b]?) (may : MemPlace → Prop) : W.keptBut W' may := by
  refine ⟨hl.os, hl.output, fun i hi => ?_⟩
  rw [hsame i hi]
  split
  · rename_i h1 h2
    rw [h1] at h2
    cases h2
    exact ⟨rfl, rfl, rfl, fun _ _ => rfl⟩
  · rename_i h1 h2
    rw [h1] at h2
    cases h2
    exact .inr ⟨rfl, rfl⟩
  · rfl

/-- The law says true, and nothing that was there has turned. -/
theorem post_true {f : Func} {s : ChangeSpec} {tb : TypeId} (hres : f.resultTypes = #[tb]) (htb : P.underlying tb = some .bool) (hvars : s.vars = []) (hl : laidOutB P = true) (hts : ∀ t ∈ f.params.toList, P.readableRec t = true ∧ t < P.types.size)
    {fresh handsOn again : Bool} {W W' : World} {args : Array Value} {ds gs : List (DataW H)} {before : List MemPlace} (hW : DataW.Whole enc P f.params.toList s.vars false W args.toList ds gs before)
    (hout : (s.fn H (ds ++ gs)).results = [.lit (.bool true)] ∧ (s.fn H (ds ++ gs)).args = ds ∧ (s.fn H (ds ++ gs)).vars = []) (hlater : Later W W') (hsame : ∀ b, b < W.heap.size → W'.heap[b]? = W.heap[b]?) :
    s.post enc P f false fresh handsOn again W args (.bool true) W' := by
  have hlt := hW.lt
  obtain ⟨p, q, hA, hV, hpq, hfz, hnd⟩ := hW
  have hgs : gs = [] ∧ q = [] := by
    rw [hvars] at hV
    cases gs with
    | nil => exact ⟨rfl, hV⟩
    | cons g gs => exact hV.elim
  obtain ⟨rfl, rfl⟩ := hgs
  rw [List.append_nil] at hpq
  subst hpq
  obtain ⟨o1, o2, o3⟩ := hout
  have hargs : ∀ sp : Nat → Bool, (∀ x ∈ before, sp x.block = true) → DataW.TrodAll enc P W' 0 sp true f.params.toList args.toList ds before := fun sp hsp => trodAll_stays hl hsame hts hA hlt hsp
  have hr : ∀ (b : Nat) (sp : Nat → Bool) (hd : Bool), DataW.TrodAll enc P W' b sp hd f.resultTypes.toList ((Value.bool true).resultList f.resultTypes.size) [.lit (.bool true)] [] := by
    intro b sp hd
    rw [hres]
    exact trodAll_mk1 (shut_bool htb true)
  have hv : ∀ sp : Nat → Bool, DataW.TrodVars enc P W' sp s.vars ([] : List (DataW H)) [] := fun sp => by rw [hvars]; rfl
  refine ⟨ds, [], before, [], before, [], ⟨before, [], hA, hV, by simp, hfz, hnd⟩, by rw [o1]; exact hr _ _ _, by rw [o2]; exact hargs _ (fun x hx => by simpa using hlt x hx), by rw [o3]; exact hv _, keptBut_same hlater hsame _, fun _ => ⟨ok_one hres rfl (okWide_bool_mk htb true), ?_⟩⟩
  refine ⟨[.lit (.bool true)] ++ ds, [], [] ++ before, ⟨[] ++ before, [], trodAll_append (hargs _ (fun _ _ => rfl)) (hr _ _ _), hv _, by simp, fun b off hp => ?_, fun h => by cases h⟩, fun x hx _ => by simpa using hx⟩
  have hp' : MemPlace.cell b off ∈ before := by simpa using hp
  have hb := hsame b (hlt _ hp')
  have := hfz b off hp'
  simp only [World.frozen?] at this ⊢
  rw [hb]
  exact this

/-- A law that the evaluator finds true. -/
theorem law_calls {E : Env} {C : CF} (hC : CSound P E.G C) (hG : ∀ W : World, GOk E.G { w := W, M := fun _ => False, E := [], H := [] }) {g : Nat} {f : Func} {s : ChangeSpec} {tb : TypeId} (hres : f.resultTypes = #[tb]) (htb : P.underlying tb = some .bool) (hvars : s.vars = []) (hl : laidOutB P = true)
    (hts : ∀ t ∈ f.params.toList, P.readableRec t = true ∧ t < P.types.size) {fresh handsOn again : Bool} {W : World} {args : Array Value} {ds gs : List (DataW H)} {before : List MemPlace} (hW : DataW.Whole enc P f.params.toList s.vars false W args.toList ds gs before)
    (hout : (s.fn H (ds ++ gs)).results = [.lit (.bool true)] ∧ (s.fn H (ds ++ gs)).args = ds ∧ (s.fn H (ds ++ gs)).vars = []) {avs : List AV} (has : ARel { w := W, M := fun _ => False, E := [], H := [] } [] avs args)
    (hlaw : C g avs [] [] = some (.ret (.sc (.bool true)), [])) : Calls P g args W fun e W' => ∃ v, e = .returned v ∧ s.post enc P f false fresh handsOn again W args v W' := by
  have hok : Cx.Ok { w := W, M := fun _ => False, E := [], H := [] } := ⟨rfl, fun b h => h.elim, fun k h e hH => by simp at hH, fun i j e e' b hi => by simp at hi⟩
  refine callsIn_wide.1 (((hC g avs [] [] _ _ hlaw).2 _ [] args rfl hok (hG W) has .nil).mono fun e W' h => ?_)
  obtain ⟨X', rfl, _, _, t, cv, rfl, hv⟩ := h
  have hcv := hv.sc_inv
  subst hcv
  exact ⟨_, rfl, post_true hres htb hvars hl hts hW hout t.later fun b hb => t.same b hb (by rintro ⟨k, e, hk, _⟩; simp at hk)⟩

/-- Where a call is handed its arguments: nothing of this memory will be written. -/
def Cx.start (W : World) : Cx := { w := W, M := fun _ => False, E := [], H := [] }

/-- One argument is read. -/
def Arg1 (e0 : TypeId × Value → H) (P : Program) (W : World) (t : Nat) {A : Type} (en : A → AV) (good : A → Prop) : Prop :=
  ∀ v d p base, Value.okWide P W .any base t v → DataW.Trod e0 P W 0 (fun _ => true) true t v d p → ∃ a, good a ∧ FRel W (fun _ => False) (en a) v

theorem Arg1.agg {t : Nat} {W : World} {A : Type} {en : A → List AV} {good : A → Prop} (hu : (∃ fs, P.underlying t = some (.struct fs)) ∨ ∃ n e, P.underlying t = some (.array n e)) (h : Rd enc P W t en good) :
    Arg1 enc P W t (fun a => .agg (en a)) good := by
  intro v d p base hok ⟨fuel, hd⟩
  obtain ⟨cs, rfl⟩ : ∃ cs, v = .agg cs := by
    unfold Value.okWide at hok
    rcases hu with ⟨fs, hu⟩ | ⟨n, e, hu⟩ <;> rw [hu] at hok <;> obtain ⟨cs, rfl, _⟩ := hok <;> exact ⟨cs, rfl⟩
  obtain ⟨a, h1, h2, h3⟩ := h fuel _ d p hd
  refine ⟨a, h1, .agg (by simpa [Value.cells] using h2.symm) (fun i u hu' => ?_) (fun i c u hc hu' => ?_)⟩
  · have hlt : i < (en a).length := by rw [h2]; simpa [Value.cells] using (Array.getElem?_eq_some_iff.1 hu').1
    exact (h3 i _ u (List.getElem?_eq_getElem hlt) (by simpa [Value.cells] using hu')).2
  · exact (h3 i c u hc (by simpa [Value.cells] using hu')).1

theorem Arg1.cell {t : Nat} {W : World} {A : Type} {en : A → AV} {good : A → Prop} (hu : (∃ k, P.underlying t = some (.int k)) ∨ P.underlying t = some .bool ∨ ∃ e, P.underlying t = some (.slice e)) (h : Rd enc P W t (fun a => [en a]) good) :
    Arg1 enc P W t en good := by
  intro v d p base hok ⟨fuel, hd⟩
  obtain ⟨a, h1, h2, h3⟩ := h fuel _ d p hd
  have hone : v.cells = #[v] := by
    unfold Value.okWide at hok
    rcases hu with ⟨k, hu⟩ | hu | ⟨e, hu⟩ <;> rw [hu] at hok <;> simp only [Cell.okWide, hu] at hok <;> cases v <;> first | rfl | simp [Cell.ok, hu] at hok
  refine ⟨a, h1, (h3 0 (en a) v rfl ?_).1⟩
  rw [hone]
  rfl
end
end Go.Abs

/- Calls that are asked twice where an empty slice comes in. -/
namespace Go.Abs

section
variable {H : List Ent} {t : Nat} {T : TT} {C : CF} {Y : List YF}
theorem cln_empty {g z : Nat} {f : Bool} {caps : List AV} : aCallFn C Y .cln H (.fn g caps) [.sl f z []] =
    if AV.pureL caps = true then if (askEmpty C g (.nsl true z :: caps) && askEmpty C g (.nsl false z :: caps)) = true then some (.val (.sl false z []) H) else none else none := rfl
@[go_sem] theorem bareCall_eq {g : Nat} {vs : List AV} : bareCall C g vs H = match C g vs [] [] with
    | some (.ret v, H1) => match bareRet H1 v with
      | some v' => some (.val v' H)
      | none => none
    | some (.pan v, _) => if AV.pure v = true then some (.pan v H) else none
    | none => none := rfl
@[go_sem] theorem cln_sc {g : Nat} {v : Value} {caps : List AV} : aCallFn C Y .cln H (.fn g caps) [.sc v] = if AV.pureL caps = true then bareCall C g (.sc v :: caps) H else none := rfl
@[go_sem] theorem fl_non_own : (Fl.non == Fl.own) = false := rfl
@[go_sem] theorem fl_own_own : (Fl.own == Fl.own) = true := rfl
theorem ask_true {g : Nat} {vs : List AV} {v v' : AV} {H1 : List Ent} (h : C g vs [] [] = some (.ret v, H1)) (h2 : bareRet H1 v = some v') (h3 : emptySl v' = true) : askEmpty C g vs = true := by
  simp only [askEmpty, h, h2, h3]
section app
variable {B : List Ent}
@[go_sem] theorem app_get0 : (H ++ B)[H.length]? = B[0]? := by rw [List.getElem?_append_right (Nat.le_refl _), Nat.sub_self]
@[go_sem] theorem app_getk (k : Nat) : (H ++ B)[H.length + k]? = B[k]? := by rw [List.getElem?_append_right (Nat.le_add_right _ _), Nat.add_sub_cancel_left]
@[go_sem] theorem app_set0 (e : Ent) : (H ++ B).set H.length e = H ++ B.set 0 e := by rw [List.set_append_right _ _ (Nat.le_refl _), Nat.sub_self]
@[go_sem] theorem app_setk (e : Ent) (k : Nat) : (H ++ B).set (H.length + k) e = H ++ B.set k e := by rw [List.set_append_right _ _ (Nat.le_add_right _ _), Nat.add_sub_cancel_left]
@[go_sem] theorem app_take0 : (H ++ B).take H.length = H := by rw [List.take_append_of_le_length (Nat.le_refl _), List.take_length]
@[go_sem] theorem app_takek (k : Nat) : (H ++ B).take (H.length + k) = H ++ B.take k := by rw [List.take_append, List.take_of_length_le (Nat.le_add_right _ _), Nat.add_sub_cancel_left]
@[go_sem] theorem app_drop0 : (H ++ B).drop H.length = B := by rw [List.drop_append_of_le_length (Nat.le_refl _), List.drop_length, List.nil_append]
@[go_sem] theorem add_lt_no (n k : Nat) : (n + k < n) = False := eq_false (by omega)
@[go_sem] theorem ent_under_own {n vr z : Nat} {xs : List (List AV)} : Ent.under n (.own vr z xs) = AV.underLL n xs := rfl
@[go_sem] theorem ent_under_box {n : Nat} {cs : List AV} : Ent.under n (.box cs) = AV.underL n cs := rfl
@[go_sem] theorem underLL_nil {n : Nat} : AV.underLL n [] = true := rfl
@[go_sem] theorem underLL_cons {n : Nat} {x : List AV} {xs : List (List AV)} : AV.underLL n (x :: xs) = (AV.underL n x && AV.underLL n xs) := rfl
theorem underLL_map {α : Type} {n : Nat} {f : α → List AV} (h : ∀ a, AV.pureL (f a) = true) (l : List α) : AV.underLL n (l.map f) = true := pureLL_under n _ (pureLL_map h l)
theorem underLL_maps {α : Type} {n : Nat} {f : α → AV} (h : ∀ a, AV.pure (f a) = true) (l : List α) : AV.underLL n (l.map fun a => [f a]) = true := underLL_map (fun a => by simp [AV.pureL, h]) l
@[go_sem] theorem ghost_weak {s z : Nat} {st : St} : ghost (.weak s z) st = some (if isNilSl (st.tm.get s) = true then { st with tm := (s, .sl false z []) :: st.tm } else st) := rfl
@[go_sem] theorem isNil_sl {f : Bool} {z : Nat} {xs : List (List AV)} : isNilSl (.sl f z xs) = false := rfl
@[go_sem] theorem isNil_os {k off len vr : Nat} : isNilSl (.os k off len vr) = false := rfl
@[go_sem] theorem ghost_freeze {s : Nat} {st : St} : ghost (.freeze s) st = match st.tm.get s with
    | .os k off len vr =>
      if st.b ≤ k then
        match snap st.H (.os k off len vr) with
        | some (p, z, xs) => if p = true then some { st with tm := (s, .sl false z xs) :: st.tm, H := st.H.set k .dead } else none
        | none => none
      else none
    | _ => none := rfl
end app
/-- A clone, by value: from what it answers for nil, for an empty slice that is not nil, and for the others. -/
theorem clone_by {g z : Nat} (h1 : ∀ n, ∃ v H1 v', C g [.nsl n z] [] [] = some (.ret v, H1) ∧ bareRet H1 v = some v' ∧ emptySl v' = true)
    {xs : List (List AV)} (h2 : xs ≠ [] → ∃ v H1, C g [.sl false z xs] [] [] = some (.ret v, H1) ∧ bareRet H1 v = some (.sl false z xs)) (H : List Ent) (Y : List YF) :
    aCallFn C Y .cln H (.fn g []) [.sl false z xs] = some (.val (.sl false z xs) H) := by
  cases xs with
  | nil =>
    obtain ⟨v1, H1, v1', a1, a2, a3⟩ := h1 true
    obtain ⟨v2, H2, v2', b1, b2, b3⟩ := h1 false
    rw [cln_empty]
    simp only [ask_true a1 a2 a3, ask_true b1 b2 b3]
    rfl
  | cons x xs =>
    obtain ⟨v, H1, q1, q2⟩ := h2 (by simp)
    rw [call_cln_cons]
    simp only [AV.pureL, if_true, bareCall_eq, q1, q2]
end
end Go.Abs

