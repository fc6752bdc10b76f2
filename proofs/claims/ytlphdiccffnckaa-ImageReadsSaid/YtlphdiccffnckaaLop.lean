/- Loops over a list, and more rules for evaluating by rewriting. -/
import Derived.Test.YtlphdiccffnckaaSym
namespace Go.Abs

/-- A fold that may stop. -/
def foldE {α σ ρ : Type} (f : Nat → σ → α → σ ⊕ ρ) : Nat → σ → List α → σ ⊕ ρ
  | _, s, [] => .inl s
  | i, s, x :: xs => match f i s x with
    | .inl s' => foldE f (i + 1) s' xs
    | .inr r => .inr r

theorem foldE_any {α ρ : Type} (p : α → Bool) (r : ρ) : ∀ (xs : List α) (i : Nat), foldE (fun _ (_ : Unit) x => if p x = true then .inr r else .inl ()) i () xs = if xs.any p = true then .inr r else .inl ()
  | [], _ => rfl
  | x :: xs, i => by
    simp only [foldE, List.any_cons]
    by_cases h : p x = true
    · simp [h]
    · simp [h, foldE_any p r xs (i + 1)]
theorem foldE_map {α β ρ : Type} (g : α → β) : ∀ (xs : List α) (i : Nat) (s : List β), foldE (ρ := ρ) (fun _ s x => .inl (s ++ [g x])) i s xs = .inl (s ++ xs.map g)
  | [], _, s => by simp [foldE]
  | x :: xs, i, s => by simp [foldE, foldE_map g xs]
theorem foldE_fold {α σ ρ : Type} (g : σ → α → σ) : ∀ (xs : List α) (i : Nat) (s : σ), foldE (ρ := ρ) (fun _ s x => .inl (g s x)) i s xs = .inl (xs.foldl g s)
  | [], _, s => by simp [foldE]
  | x :: xs, i, s => by simp [foldE, foldE_fold g xs]
theorem foldE_idx {α : Type} (p : α → Bool) : ∀ (xs : List α) (i : Nat), foldE (ρ := Nat) (fun i (_ : Unit) x => if p x = true then .inr i else .inl ()) i () xs = match xs.findIdx? p with
    | some j => .inr (i + j)
    | none => .inl ()
  | [], _ => rfl
  | x :: xs, i => by
    simp only [foldE, List.findIdx?_cons]
    by_cases h : p x = true
    · simp [h]
    · simp only [h, Bool.false_eq_true, if_false, foldE_idx p xs (i + 1)]
      cases xs.findIdx? p <;> simp
      omega
/-- Two lists of one length, compared element by element. -/
theorem foldE_eq {α : Type} [DecidableEq α] (ys : List α) : ∀ (xs : List α) (i : Nat), xs.length + i = ys.length → foldE (ρ := Unit) (fun i (_ : Unit) x => if some x = ys[i]? then .inl () else .inr ()) i () xs = if xs = ys.drop i then .inl () else .inr ()
  | [], i, h => by rw [List.drop_of_length_le (by simp at h; omega)]; rfl
  | x :: xs, i, h => by
    have hlt : i < ys.length := by simp at h; omega
    simp only [foldE]
    rw [List.drop_eq_getElem_cons hlt, List.getElem?_eq_getElem hlt]
    by_cases hx : x = ys[i]
    · rw [if_pos (by rw [hx])]
      simp only [foldE_eq ys xs (i + 1) (by simp at h; omega), List.cons.injEq, hx, true_and]
    · rw [if_neg (by simpa using hx), if_neg (fun e => hx (List.cons.inj e).1)]

theorem foldE_app {α σ ρ : Type} (f : Nat → σ → α → σ ⊕ ρ) (ys : List α) : ∀ (xs : List α) (i : Nat) (s : σ), foldE f i s (xs ++ ys) = match foldE f i s xs with
    | .inl s' => foldE f (i + xs.length) s' ys
    | .inr r => .inr r
  | [], i, s => rfl
  | x :: xs, i, s => by
    simp only [List.cons_append, foldE]
    cases f i s x with
    | inl s' => simp only [foldE_app f ys xs (i + 1) s', List.length_cons, show i + 1 + xs.length = i + (xs.length + 1) by omega]
    | inr r => rfl
theorem foldE_zip {α β γ ρ : Type} (g : α → β → γ) (d : β) (ys : List β) : ∀ (xs : List α) (i : Nat) (s : List γ), xs.length + i = ys.length → foldE (ρ := ρ) (fun i s x => .inl (s ++ [g x ((ys[i]?).getD d)])) i s xs = .inl (s ++ List.zipWith g xs (ys.drop i))
  | [], i, s, _ => by simp [foldE]
  | x :: xs, i, s, h => by
    have hlt : i < ys.length := by simp at h; omega
    simp only [foldE]
    rw [foldE_zip g d ys xs (i + 1) _ (by simp at h; omega), List.drop_eq_getElem_cons hlt, List.getElem?_eq_getElem hlt]
    simp only [Option.getD_some, List.zipWith_cons_cons, List.append_assoc, List.singleton_append]
/-- What is known of a state. -/
def Live : List (Nat × AV) → List Ent → Nat → St → Prop
  | [], H, b, st => st.H = H ∧ st.b = b
  | p :: l, H, b, st => st.tm.get p.1 = p.2 ∧ Live l H b st
theorem live_nil {H : List Ent} {b : Nat} {st : St} : Live [] H b st ↔ st.H = H ∧ st.b = b := Iff.rfl
theorem live_cons {t : Nat} {v : AV} {l : List (Nat × AV)} {H : List Ent} {b : Nat} {st : St} : Live ((t, v) :: l) H b st ↔ st.tm.get t = v ∧ Live l H b st := Iff.rfl
/-- The same, the entities aside. -/
def LiveT : List (Nat × AV) → Nat → St → Prop
  | [], b, st => st.b = b
  | p :: l, b, st => st.tm.get p.1 = p.2 ∧ LiveT l b st
theorem liveT_nil {b : Nat} {st : St} : LiveT [] b st ↔ st.b = b := Iff.rfl
theorem liveT_cons {t : Nat} {v : AV} {l : List (Nat × AV)} {b : Nat} {st : St} : LiveT ((t, v) :: l) b st ↔ st.tm.get t = v ∧ LiveT l b st := Iff.rfl
attribute [go_sem] live_nil live_cons liveT_nil liveT_cons

section
variable {E : Env} {C : CF} {Y : List YF} {w : Words}

theorem fold_step {α σ ρ : Type} {xs : List α} {f : Nat → σ → α → σ ⊕ ρ} {a : Code} {b : Nat} {ex : ρ → Ex} {I : Nat → σ → St → Prop} {J : σ → St → Prop} {K : ρ → St → Prop} (hex : ∀ r, ex r ≠ .normal)
    (hr : ∀ i s x st, xs[i]? = some x → I i s st → match f i s x with
      | .inl s' => ∃ st', dn E C Y w a st = some (.normal, st') ∧ I (i + 1) s' st'
      | .inr r => ∃ st', dn E C Y w a st = some (ex r, st') ∧ K r st')
    (he : ∀ s st, I xs.length s st → ∃ st', dn E C Y w a st = some (.exit b, st') ∧ J s st') :
    ∀ (n i : Nat) (s : σ) (st : St), i + n = xs.length → I i s st → ∃ st', match foldE f i s (xs.drop i) with
      | .inl s' => loopC E C Y w a st = some (.exit b, st') ∧ J s' st'
      | .inr r => loopC E C Y w a st = some (ex r, st') ∧ K r st'
  | 0, i, s, st, hi, h => by
    have hi' : i = xs.length := by omega
    subst hi'
    obtain ⟨st', h1, h2⟩ := he s st h
    refine ⟨st', ?_⟩
    rw [List.drop_length]
    refine ⟨?_, h2⟩
    rw [loopC_eq, h1]
    rfl
  | n + 1, i, s, st, hi, h => by
    have hlt : i < xs.length := by omega
    have hx : xs[i]? = some xs[i] := List.getElem?_eq_getElem hlt
    have := hr i s _ st hx h
    rw [List.drop_eq_getElem_cons hlt]
    simp only [foldE]
    cases hf : f i s xs[i] with
    | inl s' =>
      rw [hf] at this
      obtain ⟨st1, h1, h2⟩ := this
      obtain ⟨st', h3⟩ := fold_step hex hr he n (i + 1) s' st1 (by omega) h2
      refine ⟨st', ?_⟩
      have : loopC E C Y w a st = loopC E C Y w a st1 := by rw [loopC_eq, h1]; rfl
      rw [this]
      exact h3
    | inr r =>
      rw [hf] at this
      obtain ⟨st1, h1, h2⟩ := this
      refine ⟨st1, ?_, h2⟩
      rw [loopC_eq, h1]
      have := hex r
      cases hr : ex r <;> first | rfl | exact absurd hr this

theorem fold_loop {α σ ρ : Type} (xs : List α) (f : Nat → σ → α → σ ⊕ ρ) (s0 : σ) {a : Code} {b : Nat} {ex : ρ → Ex} (I : Nat → σ → St → Prop) (J : σ → St → Prop) (K : ρ → St → Prop)
    (hr : ∀ i s st (hi : i < xs.length), I i s st → match f i s xs[i] with
      | .inl s' => ∃ st', dn E C Y w a st = some (.normal, st') ∧ I (i + 1) s' st'
      | .inr r => ∃ st', dn E C Y w a st = some (ex r, st') ∧ K r st')
    (he : ∀ s st, I xs.length s st → ∃ st', dn E C Y w a st = some (.exit b, st') ∧ J s st') (hex : ∀ r, ex r ≠ .normal) :
    ∃ R : St → St, ∀ st, I 0 s0 st → match foldE f 0 s0 xs with
      | .inl s' => loopC E C Y w a st = some (.exit b, R st) ∧ J s' (R st)
      | .inr r => loopC E C Y w a st = some (ex r, R st) ∧ K r (R st) := by
  have := skol (A := True) (P := I 0 s0) (Q := fun st st' => match foldE f 0 s0 xs with
      | .inl s' => loopC E C Y w a st = some (.exit b, st') ∧ J s' st'
      | .inr r => loopC E C Y w a st = some (ex r, st') ∧ K r st')
    (fun _ st h => fold_step hex (fun i s x st hx h => by
      obtain ⟨hi, rfl⟩ := List.getElem?_eq_some_iff.1 hx
      exact hr i s st hi h) he xs.length 0 s0 st (by omega) h)
  obtain ⟨R, hR⟩ := this
  exact ⟨R, fun st h => hR trivial st h⟩

@[go_sem] theorem lit_lt (k n : Nat) : ((no_index (OfNat.ofNat k) : Int) < (n : Int)) = ((OfNat.ofNat k : Nat) < n) := propext Int.ofNat_lt
@[go_sem] theorem lt_lit (k n : Nat) : ((n : Int) < (no_index (OfNat.ofNat k) : Int)) = (n < (OfNat.ofNat k : Nat)) := propext Int.ofNat_lt
@[go_sem] theorem lit_le (k n : Nat) : ((no_index (OfNat.ofNat k) : Int) ≤ (n : Int)) = ((OfNat.ofNat k : Nat) ≤ n) := propext Int.ofNat_le
@[go_sem] theorem le_lit (k n : Nat) : ((n : Int) ≤ (no_index (OfNat.ofNat k) : Int)) = (n ≤ (OfNat.ofNat k : Nat)) := propext Int.ofNat_le
@[go_sem] theorem lit_eq (k n : Nat) : ((n : Int) = (no_index (OfNat.ofNat k) : Int)) = (n = (OfNat.ofNat k : Nat)) := propext Int.ofNat_inj
variable {T : TT} {H : List Ent} {b t : Nat}
@[go_sem] theorem wrap_succ {n : Nat} (h : n < 1000000000) : IntKind.wrap .i64 ((n : Int) + 1) = (n : Int) + 1 := wrap64 (by omega)
@[go_sem] theorem wrap_cast {n : Nat} (h : n < 1000000000) : IntKind.wrap .i64 (n : Int) = (n : Int) := wrap64 (by omega)
attribute [go_sem] aBuild fillA putAt
@[go_sem] theorem append_os {own : Bool} {k len vr : Nat} {x : AV} : aAppend T own b H t (.os k 0 len vr) x = match T.elem t with
    | none => none
    | some (z, eb) => match elemsOf H z x with
      | none => none
      | some (py, ys) => match H[k]? with
        | some (.own vr' z' xs) =>
          if vr = vr' ∧ z = z' ∧ len ≤ xs.length ∧ room (len + ys.length) eb = true ∧ (k < b → AV.pureLL ys = true) then
            some (.os k 0 (len + ys.length) (vr + 1), H.set k (.own (vr + 1) z (xs.take len ++ ys)))
          else none
        | _ => none := by
  unfold aAppend
  cases T.elem t with
  | none => rfl
  | some p =>
    obtain ⟨z, eb⟩ := p
    cases elemsOf H z x with
    | none => rfl
    | some q => rfl
@[go_sem] theorem opD_append {E : Env} {C : CF} {Y : List YF} {f : Fl} {tm : Slots} (x y : Operand) (t2 : Nat) : opD E C Y f (.call { callee := .builtin .append, args := #[x, y], argTypes := #[t, t2] }) tm b H =
    if (E.T.elem t2).isSome = true then okH (aAppend E.T (f == .own) b H t (aval E.G tm x) (aval E.G tm y)) else none := rfl
@[go_sem] theorem opD_copy {E : Env} {C : CF} {Y : List YF} {f : Fl} {tm : Slots} (x y : Operand) (t2 : Nat) : opD E C Y f (.call { callee := .builtin .copy, args := #[x, y], argTypes := #[t, t2] }) tm b H =
    okH (aCopy E.T b H t (aval E.G tm x) (aval E.G tm y)) := rfl
@[go_sem] theorem opD_max {E : Env} {C : CF} {Y : List YF} {f : Fl} {tm : Slots} (x y : Operand) (ts : Array TypeId) : opD E C Y f (.call { callee := .builtin .max, args := #[x, y], argTypes := ts }) tm b H = Go.Abs.ok H (aMax2 (aval E.G tm x) (aval E.G tm y)) := rfl
@[go_sem] theorem max2 {k : IntKind} {x y : Int} : aMax2 (.sc (.int k x)) (.sc (.int k y)) = some (.sc (.int k (if y > x then y else x))) := by simp [aMax2]
@[go_sem] theorem conv_int {k : IntKind} {n : Int} {s d : Nat} : aConv T s d (.sc (.int k n)) = if (T.size s).isSome then (T.int d).map fun k => .sc (.int k (k.wrap n)) else none := rfl
@[go_sem] theorem bin_rem {k : IntKind} {x y : Int} : aBin T .rem t (.sc (.int k x)) (.sc (.int k y)) = if y = 0 then none else some (.sc (.int k (x.tmod y))) := by
  by_cases h : y = 0 <;> simp [aBin, intBin, h]
@[go_sem] theorem bin_eqb {x y : Bool} : aBin T .eql t (.sc (.bool x)) (.sc (.bool y)) = if T.bool t = true then some (.sc (.bool (x == y))) else none := rfl
@[go_sem] theorem opD_extract {E : Env} {C : CF} {Y : List YF} {f : Fl} {tm : Slots} (x : Operand) (i : Nat) : opD E C Y f (.extract x i) tm b H = match aval E.G tm x with
    | .tup vs => Go.Abs.ok H vs[i]?
    | _ => none := rfl
@[go_sem] theorem opD_buildSlice {E : Env} {C : CF} {Y : List YF} {f : Fl} {tm : Slots} (n : Nat) (ps : List (Nat × Operand)) : opD E C Y f (.buildSlice t n ⟨ps⟩) tm b H =
    match E.T.ezero t with
    | none => none
    | some zs => match slLit E.T (f == .own) t n (ps.map fun p => (p.1, aval E.G tm p.2)) zs with
      | none => none
      | some (z, xs) => if f == .own then some (.val (.os H.length 0 n 0) (H ++ [.own 0 z xs])) else some (.val (.sl false z xs) H) := rfl
@[go_sem] theorem slLit_one {own : Bool} {v : AV} {zs : List Value} : slLit T own t 1 [(0, v)] zs = match T.elem t with
    | none => none
    | some (z, _) => if zs.length = z ∧ 0 < z ∧ z ≤ 16777216 ∧ (bif own then AV.still v else AV.pure v) = true ∧ AV.storable v = true ∧ v.cells.length = z then some (z, [v.cells]) else none := by
  unfold slLit
  cases T.elem t with
  | none => rfl
  | some p =>
    obtain ⟨z, eb⟩ := p
    simp only [Nat.one_mul]
    have hps : ((bif own then AV.stillL ([(0, v)].map (·.2)) else AV.pureL ([(0, v)].map (·.2))) = true) = ((bif own then AV.still v else AV.pure v) = true) := by
      cases own <;> simp [AV.stillL, AV.pureL]
    simp only [hps]
    have hlen : (List.replicate 1 (zs.map AV.sc)).flatten.length = zs.length := by simp
    simp only [fillA, Nat.zero_mul, Nat.zero_add, hlen]
    by_cases h : zs.length = z ∧ 0 < z ∧ z ≤ 16777216 ∧ (bif own then AV.still v else AV.pure v) = true
    · rw [if_pos h]
      by_cases h2 : v.cells.length = z ∧ AV.storable v = true
      · rw [if_pos ⟨h2.1, h2.2, by omega⟩, if_pos ⟨h.1, h.2.1, h.2.2.1, h.2.2.2, h2.2, h2.1⟩]
        simp only [Option.map_some, putAt, List.take_zero, List.nil_append, Nat.zero_add]
        rw [List.drop_of_length_le (by omega), List.append_nil]
        simp [Go.Abs.chunks, ← h2.1]
      · rw [if_neg (fun hh => h2 ⟨hh.1, hh.2.1⟩), if_neg (fun hh => h2 ⟨hh.2.2.2.2.2, hh.2.2.2.2.1⟩)]
        rfl
    · rw [if_neg h, if_neg (fun hh => h ⟨hh.1, hh.2.1, hh.2.2.1, hh.2.2.2.1⟩)]
@[go_sem] theorem elems_sl {f : Bool} {z z' : Nat} {xs : List (List AV)} : elemsOf H z (.sl f z' xs) = if z = z' then some (true, xs) else none := rfl
@[go_sem] theorem elems_nil {z : Nat} : elemsOf H z (.sc (.slice none 0 0)) = some (true, []) := rfl
@[go_sem] theorem elems_os {z k off len vr : Nat} : elemsOf H z (.os k off len vr) = match snap H (.os k off len vr) with
    | some (p, z', xs) => if z = z' then some (p, xs) else none
    | none => none := rfl
@[go_sem] theorem snap_os {k off len vr : Nat} : snap H (.os k off len vr) = match H[k]? with
    | some (.own vr' z xs) => if vr = vr' ∧ off + len ≤ xs.length then some (AV.pureLL ((xs.drop off).take len), z, (xs.drop off).take len) else none
    | _ => none := rfl
@[go_sem] theorem snap_sl {f : Bool} {z : Nat} {xs : List (List AV)} : snap H (.sl f z xs) = some (true, z, xs) := rfl
theorem room_ok {n eb : Nat} (h : n ≤ 1000000000) (h0 : 0 < eb) (h1 : eb ≤ 100000) : room n eb = true := by
  unfold room
  have : n * eb ≤ 1000000000 * 100000 := Nat.mul_le_mul h h1
  simp
  omega
@[go_sem] theorem len_os {k off len vr : Nat} : aLen T H t (.os k off len vr) = match T.arr t with
    | some (n, _, _) => some (.sc (.int .i64 n))
    | none => match T.elem t with
      | none => none
      | some _ => match H[k]? with
        | some (.own vr' _ _) => if vr = vr' then some (.sc (.int .i64 len)) else none
        | _ => none := rfl
@[go_sem] theorem len_nil : aLen T H t (.sc (.slice none 0 0)) = match T.arr t with
    | some (n, _, _) => some (.sc (.int .i64 n))
    | none => match T.elem t with
      | none => none
      | some _ => some (.sc (.int .i64 0)) := rfl
@[go_sem] theorem make_own {f : Bool} {l c : Int} {zs : List Value} : aMake T f H t (.sc (.int .i64 l)) (.sc (.int .i64 c)) (some zs) = match T.elem t with
    | some (z, eb) => if 0 ≤ l ∧ l ≤ c ∧ c ≤ 1099511627776 ∧ zs.length = z ∧ 0 < z ∧ room c.toNat eb = true then
        if f = true then some (.os H.length 0 l.toNat 0, H ++ [.own 0 z (List.replicate l.toNat (zs.map .sc))])
        else if l = c then some (.sl false z (List.replicate l.toNat (zs.map .sc)), H) else none
      else none
    | none => none := by
  unfold aMake
  cases T.elem t with
  | none => rfl
  | some p => cases f <;> rfl
@[go_sem] theorem ghost_own {s z : Nat} {st : St} : ghost (.own s z) st = if isNilSl (st.tm.get s) = true ∧ 0 < z then some { st with tm := (s, .os st.H.length 0 0 0) :: st.tm, H := st.H ++ [.own 0 z []] } else none := rfl
@[go_sem] theorem isNil_nil : isNilSl (.sc (.slice none 0 0)) = true := rfl
@[go_sem] theorem call_non {E : Env} {C : CF} {Y : List YF} {g : Nat} {caps args : List AV} : aCallFn C Y .non H (.fn g caps) args =
    if (AV.pureL args && AV.pureL caps) = true then
        match C g (args ++ caps) [] [] with
        | some (.ret v, H1) => match bareRet H1 v with
          | some v' => some (.val v' H)
          | none => none
        | some (.pan v, _) => if AV.pure v = true then some (.pan v H) else none
        | none => none
      else none := rfl
@[go_sem] theorem call_cln {E : Env} {C : CF} {Y : List YF} {g z : Nat} {f : Bool} {caps : List AV} : aCallFn C Y .cln H (.fn g caps) [.sl f z []] =
    if AV.pureL caps = true then if (askEmpty C g (.nsl true z :: caps) && askEmpty C g (.nsl false z :: caps)) = true then some (.val (.sl false z []) H) else none else none := rfl
theorem call_cln_cons {C : CF} {Y : List YF} {g z : Nat} {f : Bool} {x : List AV} {xs : List (List AV)} {caps : List AV} : aCallFn C Y .cln H (.fn g caps) [.sl f z (x :: xs)] = if AV.pureL caps = true then bareCall C g (.sl f z (x :: xs) :: caps) H else none := rfl
theorem call_cln_nil {C : CF} {Y : List YF} {g : Nat} {v : Value} {caps : List AV} : aCallFn C Y .cln H (.fn g caps) [.sc v] = if AV.pureL caps = true then bareCall C g (.sc v :: caps) H else none := rfl
@[go_sem] theorem elems_nsl {n : Bool} {z z' : Nat} : elemsOf H z (.nsl n z') = if z = z' then some (true, []) else none := rfl
@[go_sem] theorem eql_nsl {n : Bool} {z : Nat} : aBin T .eql t (.nsl n z) (.sc (.slice none 0 0)) = if (T.elem t).isSome = true then some (.sc (.bool n)) else none := rfl
@[go_sem] theorem call_gen {C : CF} {Y : List YF} {g : Nat} {caps args : List AV} : aCallFn C Y .gen H (.fn g caps) args = outR (C g (args ++ caps) H Y) := rfl
@[go_sem] theorem outR_ret {v : AV} : outR (some (.ret v, H)) = some (.val v H) := rfl
theorem bareRet_pure {v : AV} (h : AV.pure v = true) : bareRet H v = some v := by unfold bareRet; rw [if_pos h]
@[go_sem] theorem bareRet_sc {v : Value} : bareRet H (.sc v) = some (.sc v) := rfl
@[go_sem] theorem bareRet_sl {f : Bool} {z : Nat} {xs : List (List AV)} : bareRet H (.sl f z xs) = some (.sl f z xs) := rfl
@[go_sem] theorem bareRet_tup {vs : List AV} (h : AV.pureL vs = true) : bareRet H (.tup vs) = some (.tup vs) := bareRet_pure (by simpa [AV.pure] using h)
@[go_sem] theorem bareRet_agg {vs : List AV} (h : AV.pureL vs = true) : bareRet H (.agg vs) = some (.agg vs) := bareRet_pure (by simpa [AV.pure] using h)
@[go_sem] theorem pureLL_nil : AV.pureLL [] = true := rfl
@[go_sem] theorem pureLL_cons {x : List AV} {xs : List (List AV)} : AV.pureLL (x :: xs) = (AV.pureL x && AV.pureLL xs) := rfl
theorem pureLL_map {α : Type} {f : α → List AV} (h : ∀ a, AV.pureL (f a) = true) : ∀ (l : List α), AV.pureLL (l.map f) = true
  | [] => rfl
  | x :: l => by simp [AV.pureLL, h x, pureLL_map h l]
theorem pureLL_app : ∀ {xs ys : List (List AV)}, AV.pureLL xs = true → AV.pureLL ys = true → AV.pureLL (xs ++ ys) = true
  | [], _, _, h => h
  | x :: xs, ys, h, h' => by
    simp only [AV.pureLL, List.cons_append, Bool.and_eq_true] at h ⊢
    exact ⟨h.1, pureLL_app h.2 h'⟩
@[go_sem] theorem index_os {k off len vr : Nat} {kk : IntKind} {j : Int} : aIndexAddr T H t (.os k off len vr) (.sc (.int kk j)) = if j < 0 then none else match T.elem t, H[k]? with
    | some (z', _), some (.own vr' z xs) => if z = z' ∧ vr = vr' ∧ j.toNat < len ∧ off + j.toNat < xs.length then some (.op k (off + j.toNat) 0 vr) else none
    | _, _ => none := rfl
@[go_sem] theorem load_op {k i off vr : Nat} : aLoad T H t (.op k i off vr) = match T.size t with
    | none => none
    | some (n, g) => match H[k]? with
      | some (.own vr' _ xs) => if vr = vr' then match xs[i]? with
        | some x => valOf n g (x.drop off)
        | none => none else none
      | _ => none := rfl
@[go_sem] theorem alive_op {k i off vr : Nat} : alive H (.op k i off vr) = match H[k]? with
    | some (.own vr' _ _) => Nat.beq vr vr'
    | _ => false := rfl
@[go_sem] theorem shift_op {k i off vr d : Nat} : (AV.op k i off vr).shift d = .op k i (off + d) vr := rfl
@[go_sem] theorem nat_beq_self (n : Nat) : Nat.beq n n = true := Nat.beq_refl n
@[go_sem] theorem store_bp {k off : Nat} {v : AV} : aStore T b H t (.bp k off) v = match T.size t with
    | none => none
    | some (n, _) => if v.cells.length = n ∧ AV.storable v = true then match H[k]? with
        | some (.box cs) => if off + n ≤ cs.length ∧ AV.still v = true ∧ (k < b → refCells v.cells (cs.drop off) = true) then some (H.set k (.box (putAt off v.cells cs))) else none
        | _ => none else none := rfl
@[go_sem] theorem store_op {k i off vr : Nat} {v : AV} : aStore T b H t (.op k i off vr) v = match T.size t with
    | none => none
    | some (n, _) => if v.cells.length = n ∧ AV.storable v = true then match H[k]? with
        | some (.own vr' z xs) => if vr = vr' then match xs[i]? with
          | some x => if off + n ≤ x.length ∧ AV.still v = true ∧ (k < b → refCells v.cells (x.drop off) = true) then some (H.set k (.own vr' z (xs.set i (putAt off v.cells x)))) else none
          | none => none else none
        | _ => none else none := rfl
@[go_sem] theorem putAt_zero {vs cs : List AV} : putAt 0 vs cs = vs ++ cs.drop vs.length := by simp [putAt]
theorem putAt_all {vs cs : List AV} (h : cs.length ≤ vs.length) : putAt 0 vs cs = vs := by simp [putAt, List.drop_of_length_le h]
@[go_sem] theorem slice_sl {f : Bool} {z : Nat} {xs : List (List AV)} {lo hi : Option AV} : aSlice T H t (.sl f z xs) lo hi none = match T.arr t with
    | some _ => none
    | none => match T.elem t with
      | none => none
      | some (z', _) => match bound 0 lo, bound xs.length hi with
        | some l, some h => if z' = z ∧ l ≤ h ∧ h ≤ xs.length then some (.sl (f && Nat.beq h xs.length) z' ((xs.drop l).take (h - l))) else none
        | _, _ => none := by
  unfold aSlice
  cases T.arr t with
  | some p =>
    obtain ⟨n, z, g⟩ := p
    simp only
    cases bound 0 lo with
    | none => rfl
    | some l => cases bound n hi <;> rfl
  | none =>
    simp only
    cases T.elem t with
    | none => rfl
    | some p =>
      obtain ⟨z', eb⟩ := p
      simp only
      cases bound 0 lo with
      | none => rfl
      | some l => cases bound xs.length hi <;> rfl
@[go_sem] theorem slice_os {k off len vr : Nat} {lo hi : Option AV} : aSlice T H t (.os k off len vr) lo hi none = match T.arr t with
    | some _ => none
    | none => match T.elem t with
      | none => none
      | some (z', _) => match H[k]? with
        | some (.own vr' z xs) => match bound 0 lo, bound len hi with
          | some l, some h => if vr = vr' ∧ z' = z ∧ l ≤ h ∧ h ≤ len ∧ off + len ≤ xs.length then
              if l = 0 then some (.os k off h vr) else if l < h then some (.os k (off + l) (h - l) vr) else some (.sl false z' []) else none
          | _, _ => none
        | _ => none := by
  unfold aSlice
  cases T.arr t with
  | some p =>
    obtain ⟨n, z, g⟩ := p
    simp only
    cases bound 0 lo with
    | none => rfl
    | some l => cases bound n hi <;> rfl
  | none =>
    simp only
    cases T.elem t with
    | none => rfl
    | some p =>
      obtain ⟨z', eb⟩ := p
      simp only
      cases H[k]? with
      | none => rfl
      | some e => cases e with
        | own vr' z xs =>
          simp only
          cases bound 0 lo with
          | none => rfl
          | some l => cases bound len hi <;> rfl
        | _ => rfl
@[go_sem] theorem bound_none {d : Nat} : bound d none = some d := rfl
@[go_sem] theorem bound_some {d : Nat} {k : IntKind} {i : Int} : bound d (some (.sc (.int k i))) = if 0 ≤ i then some i.toNat else none := rfl
@[go_sem] theorem copy_os {k off len vr : Nat} {src : AV} : aCopy T b H t (.os k off len vr) src = match T.elem t with
    | none => none
    | some (z, _) => match elemsOf H z src with
      | none => none
      | some (py, ys) => match H[k]? with
        | some (.own vr' z' xs) => if vr = vr' ∧ z = z' ∧ off + len ≤ xs.length ∧ 0 < z ∧ (k < b → AV.pureLL ys = true) then
            some (.sc (.int .i64 ((min ys.length len : Nat) : Int)), H.set k (.own vr z (xs.take off ++ overlay (ys.take len) (xs.drop off)))) else none
        | _ => none := rfl
@[go_sem] theorem slLit_none {own : Bool} {zs : List Value} : slLit T own t 0 [] zs = match T.elem t with
    | none => none
    | some (z, _) => if zs.length = z ∧ 0 < z then some (z, []) else none := by
  unfold slLit
  cases T.elem t with
  | none => rfl
  | some p =>
    obtain ⟨z, eb⟩ := p
    cases own <;> simp only [List.map_nil, AV.stillL, AV.pureL, cond_true, cond_false, Nat.zero_mul, Nat.zero_le, and_true, true_and, fillA, Option.map_some, List.replicate_zero, List.flatten_nil, Go.Abs.chunks]
@[go_sem] theorem eql_cons {f : Bool} {z : Nat} {x : List AV} {xs : List (List AV)} : aBin T .eql t (.sl f z (x :: xs)) (.sc (.slice none 0 0)) = if (T.elem t).isSome = true then some (.sc (.bool false)) else none := rfl
@[go_sem] theorem eql_nil : aBin T .eql t (.sc (.slice none 0 0)) (.sc (.slice none 0 0)) = if (T.elem t).isSome = true then some (.sc (.bool true)) else none := rfl
@[go_sem] theorem append_nil {x : AV} : aAppend T true b H t (.sc (.slice none 0 0)) x = match T.elem t with
    | none => none
    | some (z, eb) => match elemsOf H z x with
      | none => none
      | some (_, ys) => if 0 < z ∧ room ys.length eb = true then some (.os H.length 0 ys.length 0, H ++ [.own 0 z ys]) else none := by
  unfold aAppend
  cases T.elem t with
  | none => rfl
  | some p =>
    obtain ⟨z, eb⟩ := p
    simp only
    cases elemsOf H z x with
    | none => rfl
    | some q =>
      obtain ⟨py, ys⟩ := q
      simp [isNilSl]
@[go_sem] theorem append_nil_plain {x : AV} : aAppend T false b H t (.sc (.slice none 0 0)) x = match T.elem t with
    | none => none
    | some (z, eb) => match elemsOf H z x with
      | none => none
      | some (py, ys) => if 0 < z ∧ room ys.length eb = true ∧ py = true then some (.sl false z ys, H) else none := by
  unfold aAppend
  cases T.elem t with
  | none => rfl
  | some p =>
    obtain ⟨z, eb⟩ := p
    simp only
    cases elemsOf H z x with
    | none => rfl
    | some q =>
      obtain ⟨py, ys⟩ := q
      cases py <;> simp [isNilSl]
theorem freeze_row {bb d z : Nat} (l : List (List AV)) (h : AV.pureLL l = true) : mapO (fun x => if AV.pureL x = true then some x else (mapO (AV.freeze bb H d) x).bind fun y => if AV.pureL y = true then some y else none) l = some l := by
  induction l with
  | nil => rfl
  | cons x l ih =>
    simp only [AV.pureLL, Bool.and_eq_true] at h
    simp only [mapO]
    rw [if_pos h.1, ih h.2]
    rfl
theorem pureLL_take : ∀ {n : Nat} {xs : List (List AV)}, AV.pureLL xs = true → AV.pureLL (xs.take n) = true
  | 0, _, _ => rfl
  | n + 1, [], _ => rfl
  | n + 1, x :: xs, h => by
    simp only [AV.pureLL, Bool.and_eq_true, List.take_succ_cons] at h ⊢
    exact ⟨h.1, pureLL_take h.2⟩
def freezeE := AV.freeze
/-- An owned slice whose rows lead nowhere, handed back. -/
theorem freeze_os {bb k len vr d : Nat} : AV.freeze bb H (d + 1) (.os k 0 len vr) = match H[k]? with
    | some (.own vr' z xs) => if bb ≤ k ∧ vr = vr' ∧ len ≤ xs.length ∧ AV.pureLL xs = true then some (.sl false z (xs.take len)) else freezeE bb H (d + 1) (.os k 0 len vr)
    | _ => freezeE bb H (d + 1) (.os k 0 len vr) := by
  split
  · rename_i vr' z xs hH
    split
    · rename_i h
      obtain ⟨hk, rfl, hl, hp⟩ := h
      unfold AV.freeze
      simp only [if_neg (show ¬ k < bb by omega)]
      rw [snap_os, hH]
      simp only [Nat.zero_add, true_and, if_pos hl, Option.bind_some, List.drop_zero]
      rw [freeze_row (z := z) _ (pureLL_take hp)]
      rfl
    · rfl
  · rfl
@[go_sem] theorem freeze_tup {bb d : Nat} {cs : List AV} : AV.freeze bb H (d + 1) (.tup cs) = (mapO (AV.freeze bb H d) cs).map .tup := by rw [AV.freeze]
@[go_sem] theorem freeze_agg {bb d : Nat} {cs : List AV} : AV.freeze bb H (d + 1) (.agg cs) = (mapO (AV.freeze bb H d) cs).map .agg := by rw [AV.freeze]
@[go_sem] theorem freeze_sc {bb d : Nat} {v : Value} : AV.freeze bb H (d + 1) (.sc v) = some (.sc v) := by rw [AV.freeze] <;> first | rfl | simp
@[go_sem] theorem freeze_sl {bb d z : Nat} {f : Bool} {xs : List (List AV)} : AV.freeze bb H (d + 1) (.sl f z xs) = some (.sl f z xs) := by rw [AV.freeze] <;> first | rfl | simp
@[go_sem] theorem mapO_nil {α β : Type} {f : α → Option β} : mapO f [] = some [] := rfl
@[go_sem] theorem mapO_cons {α β : Type} {f : α → Option β} {x : α} {xs : List α} : mapO f (x :: xs) = (f x).bind fun y => (mapO f xs).map (y :: ·) := rfl
theorem take_map_len {α β : Type} (f : α → β) (l : List α) : (l.map f).take l.length = l.map f := List.take_of_length_le (by simp)
attribute [go_sem] take_map_len pureLL_map
/-- The ranges over functions of a piece of code: the assignment, the body. -/
def rangesOf : Code → List (Code × Code)
  | .seq a b => rangesOf a ++ rangesOf b
  | .cond _ a b => rangesOf a ++ rangesOf b
  | .block _ a => rangesOf a
  | .loop a => rangesOf a
  | .rangeFunc _ _ a b => (a, b) :: (rangesOf a ++ rangesOf b)
  | _ => []
@[go_sem ↓] theorem dn_rangeFunc {E : Env} {C : CF} {Y : List YF} {w : Words} {st : St} (f : Operand) (ps : List Nat) (a b : Code) : dn E C Y w (.rangeFunc f ⟨ps⟩ a b) st = rangeFn C Y (aval E.G st.tm f) ps (dn E C Y w a) (dn E C Y w b) st := rfl
@[go_sem] theorem call_yl {C : CF} {Y : List YF} {f : Fl} {j : Nat} {args : List AV} : aCallFn C Y f H (.yl j) args = match Y[j]? with
    | some y => outR (y args H)
    | none => none := rfl
@[go_sem] theorem ghost_ownAt {s off z : Nat} {st : St} : ghost (.ownAt s off z) st = match st.tm.get s with
    | .bp k o => match st.H[k]? with
      | some (.box cs) => match cs[o + off]? with
        | some v => if isNilSl v ∧ 0 < z ∧ st.b ≤ k then some { st with H := st.H.set k (.box (cs.set (o + off) (.os st.H.length 0 0 0))) ++ [.own 0 z []] } else none
        | none => none
      | _ => none
    | _ => none := rfl
end
end Go.Abs
