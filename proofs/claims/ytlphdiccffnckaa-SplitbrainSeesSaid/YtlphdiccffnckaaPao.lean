/- Texts put together: Imt, Inb. -/
import Derived.Test.YtlphdiccffnckaaPaj
import Derived.Test.YtlphdiccffnckaaPan

/- Layer 7: digests. -/
namespace Go.Proofs.Ytlphdiccffnckaa
open Go Go.Abs

def xorK (k : IntKind) (a b : Int) : Int := k.wrap (BitVec.ofInt k.bits a ^^^ BitVec.ofInt k.bits b).toNat
def shrK (k : IntKind) (a : Int) (n : Nat) : Int := a.fdiv (2 ^ min n k.bits)
@[go_sem] theorem bin_xor {T : TT} {t : Nat} {k : IntKind} {x y : Int} : aBin T .xor t (.sc (.int k x)) (.sc (.int k y)) = some (.sc (.int k (xorK k x y))) := by simp [aBin, intBin, xorK]
@[go_sem] theorem bin_shr {T : TT} {t : Nat} {k k' : IntKind} {x y : Int} : aBin T .shr t (.sc (.int k x)) (.sc (.int k' y)) = if y < 0 then none else some (.sc (.int k (shrK k x y.toNat))) := by
  by_cases h : y < 0 <;> simp [aBin, intShift, shrK, h]
@[go_sem] theorem index_agg {T : TT} {t : Nat} {cs : List AV} {k : IntKind} {i : Int} : aIndex T t (.agg cs) (.sc (.int k i)) = match T.arr t with
    | some (n, z, g) => if 0 ≤ i ∧ i < n then Go.Abs.valOf z g (cs.drop (i.toNat * z)) else none
    | none => none := rfl
@[go_sem] theorem index_fp {T : TT} {H : List Ent} {t : Nat} {cs : List AV} {k : IntKind} {i : Int} : aIndexAddr T H t (.fp cs) (.sc (.int k i)) = if i < 0 then none else match T.arr t with
    | some (n, z, _) => if i.toNat < n ∧ alive H (.fp cs) = true then some ((AV.fp cs).shift (i.toNat * z)) else none
    | none => none := rfl
@[go_sem] theorem index_bp {T : TT} {H : List Ent} {t : Nat} {kk off : Nat} {k : IntKind} {i : Int} : aIndexAddr T H t (.bp kk off) (.sc (.int k i)) = if i < 0 then none else match T.arr t with
    | some (n, z, _) => if i.toNat < n ∧ alive H (.bp kk off) = true then some ((AV.bp kk off).shift (i.toNat * z)) else none
    | none => none := rfl
theorem wrap_lit {k : Nat} (h : k < 1000000000) : IntKind.wrap .i64 (no_index (OfNat.ofNat k) : Int) = (OfNat.ofNat k : Int) := wrap64 (x := (k : Int)) (by omega)

@[go_sem] def zU64 (n : Int) : AV := .sc (.int .u64 n)
@[go_sem] def zU8b (n : Int) : AV := .sc (.int .u8 n)
@[go_sem] def zBytes (l : List Int) : AV := .sl false 1 (l.map fun b => [.sc (.int .u8 b)])
def stepH (h b : Int) : Int := IntKind.wrap .u64 (xorK .u64 h (IntKind.wrap .u64 b) * 1099511628211)
def finH (h : Int) : Int := xorK .u64 h (shrK .u64 h 32)
def mDig (bs : List Int) : Int := finH (bs.foldl stepH 14695981039346656037)

theorem f196_spec (bs : List Int) (hl : bs.length < 1000000000) (Y : List YF) : callS ev fs 196 [zBytes bs] [] Y = some (.ret (zU64 (mDig bs)), []) := by
  refine callS_by f196_eq rfl ?_
  simp only [bodyOf, Go.Proofs.Try.f196, Option.getD_some]
  obtain ⟨R, hR⟩ := fold_loop (E := ev) (C := callS ev fs) (Y := Y) (w := {}) (a := (loopsOf (bodyOf Go.Proofs.Try.f196))[0]?.getD .skip) (b := 0) 
    bs (fun _ h b => .inl (stepH h b)) 14695981039346656037 (ex := fun (r : Empty) => nomatch r)
    (fun i h => Live [(0, zBytes bs), (3, zU64 h), (4, zI i)] [] 0) (fun h => Live [(3, zU64 h)] [] 0) (fun r => nomatch r)
    (fun i s st hi h => by
      obtain ⟨tm, H, b⟩ := st
      simp only [bodyOf, Go.Proofs.Try.f196, Option.getD_some, loopsOf, rangesOf, List.nil_append, List.append_nil, List.cons_append, List.getElem?_cons_zero, List.getElem?_cons_succ]
      simp only [go_sem] at h
      obtain ⟨h0, h3, h4, rfl, rfl⟩ := h
      simp [go_sem, h0, h3, h4, hi, stepH, show i < 1000000000 by omega])
    (fun s st h => by
      obtain ⟨tm, H, b⟩ := st
      simp only [bodyOf, Go.Proofs.Try.f196, Option.getD_some, loopsOf, rangesOf, List.nil_append, List.append_nil, List.cons_append, List.getElem?_cons_zero, List.getElem?_cons_succ]
      simp only [go_sem] at h
      obtain ⟨h0, h3, h4, rfl, rfl⟩ := h
      simp [go_sem, h0, h3, h4])
    (fun r => nomatch r)
  simp only [bodyOf, Go.Proofs.Try.f196, Option.getD_some, loopsOf, rangesOf, List.nil_append, List.append_nil, List.cons_append, List.getElem?_cons_zero, List.getElem?_cons_succ] at hR
  rw [foldE_fold] at hR
  simp [go_sem] at hR
  simp [go_sem, hR, mDig, finH]

def entsD (x : AV) (h : Int) (lp : LoopState) : List Ent := [.box [x], .box [zU64 h], .loop lp none]
theorem f193_round (x : AV) (h : Int) (b : Int) (B : List Ent) (tm : Slots) (h3 : tm.get 3 = .bp 1 0) (Y : List YF) :
    roundOf [6] tm 2 (dn ev (callS ev fs) Y {} ((rangesOf (bodyOf Go.Proofs.Try.f193))[0]?.getD (.skip, .skip)).1) (dn ev (callS ev fs) Y {} ((rangesOf (bodyOf Go.Proofs.Try.f193))[0]?.getD (.skip, .skip)).2) [zU8b b] (entsD x h .ready ++ B) =
      some (.ret (.sc (.bool true)), entsD x (stepH h b) .ready ++ B) := by
  simp only [bodyOf, Go.Proofs.Try.f193, Option.getD_some, rangesOf, List.nil_append, List.append_nil, List.cons_append, List.getElem?_cons_zero]
  simp [roundOf, roundEnd, entsD, Slots.putAll, Slots.put, refCells, refCell, go_sem, h3, stepH]

/-- A function that yields these bytes, one after the other. -/
def Yields (x : AV) (g : Nat) (caps : List AV) (bs : List Int) : Prop := ∀ (Y : List YF) (y : YF) (S : Nat → List Ent), (∀ i (_ : i < bs.length) B, y [zU8b bs[i]] (S i ++ B) = some (.ret (.sc (.bool true)), S (i + 1) ++ B)) →
  (∀ i, (S i)[0]? = some (.box [x]) ∧ (S i).length = 3) → callS ev fs g (.yl Y.length :: caps) (S 0) (Y ++ [y]) = some (.ret (.tup []), S bs.length)

theorem f193_spec (x : AV) (g : Nat) (caps : List AV) (bs : List Int) (hg : Yields x g caps bs) (Y : List YF) : callS ev fs 193 [.fn g caps] [.box [x]] Y = some (.ret (zU64 (mDig bs)), [.box [x]]) := by
  have hr : ∀ st : St, st.tm.get 3 = .bp 1 0 → st.H = [.box [x], .box [zU64 14695981039346656037]] →
      rangeFn (callS ev fs) Y (.fn g caps) [6] (dn ev (callS ev fs) Y {} ((rangesOf (bodyOf Go.Proofs.Try.f193))[0]?.getD (.skip, .skip)).1) (dn ev (callS ev fs) Y {} ((rangesOf (bodyOf Go.Proofs.Try.f193))[0]?.getD (.skip, .skip)).2) st =
      some (.normal, { st with H := [.box [x], .box [zU64 (bs.foldl stepH 14695981039346656037)]] }) := by
    intro st h3 hH
    obtain ⟨tm, H, b⟩ := st
    simp only at h3 hH
    subst hH
    have h := hg Y (roundOf [6] tm 2 (dn ev (callS ev fs) Y {} ((rangesOf (bodyOf Go.Proofs.Try.f193))[0]?.getD (.skip, .skip)).1) (dn ev (callS ev fs) Y {} ((rangesOf (bodyOf Go.Proofs.Try.f193))[0]?.getD (.skip, .skip)).2))
      (fun i => entsD x ((bs.take i).foldl stepH 14695981039346656037) .ready) (fun i hi B => by
        rw [f193_round x _ _ B tm h3 Y, List.take_succ_eq_append_getElem hi, List.foldl_append]
        rfl) (fun i => ⟨rfl, rfl⟩)
    unfold rangeFn
    simp only
    have he : ([.box [x], .box [zU64 14695981039346656037]] : List Ent) ++ [.loop .ready none] = entsD x 14695981039346656037 .ready := rfl
    have hlen : ([.box [x], .box [zU64 14695981039346656037]] : List Ent).length = 2 := rfl
    rw [he, hlen]
    simp only [List.take_zero, List.foldl_nil, List.take_length] at h
    rw [h]
    rfl
  refine callS_by f193_eq rfl ?_
  simp only [bodyOf, Go.Proofs.Try.f193, Option.getD_some]
  simp only [bodyOf, Go.Proofs.Try.f193, Option.getD_some, rangesOf, List.nil_append, List.append_nil, List.cons_append, List.getElem?_cons_zero, go_sem] at hr
  simp [go_sem, refCells, refCell, hr, mDig, finH]

theorem f233_yields (bs : List Int) (hl : bs.length < 1000000000) : Yields (zBytes bs) 233 [.bp 0 0] bs := by
  intro Y y S hy hS
  refine callS_by f233_eq rfl ?_
  simp only [bodyOf, Go.Proofs.Try.f233, Option.getD_some]
  have hyj : (Y ++ [y])[Y.length]? = some y := by simp
  have h0 := (hS 0).1
  have hlen := (hS 0).2
  obtain ⟨R, hR⟩ := fold_loop (E := ev) (C := callS ev fs) (Y := Y ++ [y]) (w := {}) (a := (loopsOf (bodyOf Go.Proofs.Try.f233))[0]?.getD .skip) (b := 0)
    bs (fun _ (_ : Unit) (_ : Int) => .inl ()) () (ex := fun (r : Empty) => nomatch r)
    (fun i _ => Live [(0, .yl Y.length), (5, zBytes bs), (6, zI bs.length), (7, zI i)] (S i) 3) (fun _ => Live [] (S bs.length) 3) (fun r => nomatch r)
    (fun i s st hi h => by
      obtain ⟨tm, H, b⟩ := st
      simp only [bodyOf, Go.Proofs.Try.f233, Option.getD_some, loopsOf, rangesOf, List.nil_append, List.append_nil, List.cons_append, List.getElem?_cons_zero, List.getElem?_cons_succ]
      simp only [go_sem] at h
      obtain ⟨g0, g5, g6, g7, rfl, rfl⟩ := h
      have hyi := hy i hi []
      simp only [go_sem, List.append_nil] at hyi
      simp [go_sem, g0, g5, g6, g7, hi, hyj, hyi, show i < 1000000000 by omega])
    (fun s st h => by
      obtain ⟨tm, H, b⟩ := st
      simp only [bodyOf, Go.Proofs.Try.f233, Option.getD_some, loopsOf, rangesOf, List.nil_append, List.append_nil, List.cons_append, List.getElem?_cons_zero, List.getElem?_cons_succ]
      simp only [go_sem] at h
      obtain ⟨g0, g5, g6, g7, rfl, rfl⟩ := h
      simp [go_sem, g6, g7])
    (fun r => nomatch r)
  rw [show (fun (_ : Nat) (_ : Unit) (_ : Int) => (Sum.inl () : Unit ⊕ Empty)) = fun _ s x => Sum.inl ((fun (s : Unit) (_ : Int) => s) s x) from rfl, foldE_fold] at hR
  simp only [bodyOf, Go.Proofs.Try.f233, Option.getD_some, loopsOf, rangesOf, List.nil_append, List.append_nil, List.cons_append, List.getElem?_cons_zero, List.getElem?_cons_succ] at hR
  simp [go_sem] at hR
  have hT : (S bs.length).take 3 = S bs.length := List.take_of_length_le (by rw [(hS _).2]; exact Nat.le_refl _)
  simp only [go_sem] at h0
  have e0 := fun hk => getE h0 hk
  simp [go_sem, hlen, h0, e0, hR, hT]

def bytesOf (v : Vol) : List Int := v.flatMap (·.1)
theorem bytesOf_len : ∀ (v : Vol), (bytesOf v).length = 8 * v.length
  | [] => rfl
  | s :: v => by
    have := bytesOf_len v
    simp only [bytesOf, List.flatMap_cons, List.length_append, List.length_cons, s.2] at *
    omega
theorem bytesOf_get : ∀ (v : Vol) (i j : Nat) (hi : i < v.length) (hj : j < 8), (bytesOf v)[8 * i + j]? = (v[i].1)[j]?
  | [], _, _, hi, _ => by simp at hi
  | s :: v, 0, j, _, hj => by
    simp only [bytesOf, List.flatMap_cons, Nat.mul_zero, Nat.zero_add, List.getElem_cons_zero]
    rw [List.getElem?_append_left (by rw [s.2]; exact hj)]
  | s :: v, i + 1, j, hi, hj => by
    have := bytesOf_get v i j (by simpa using hi) hj
    simp only [bytesOf, List.flatMap_cons, List.getElem_cons_succ] at *
    rw [List.getElem?_append_right (by rw [s.2]; omega), s.2, show 8 * (i + 1) + j - 8 = 8 * i + j by omega]
    exact this

theorem f194_yields (v : Vol) (hl : v.length < 100000000) : Yields (zVol v) 194 [.bp 0 0] (bytesOf v) := by
  intro Y y S hy hS
  refine callS_by f194_eq rfl ?_
  simp only [bodyOf, Go.Proofs.Try.f194, Option.getD_some]
  have hyj : (Y ++ [y])[Y.length]? = some y := by simp
  have h0 := (hS 0).1
  have hlen := (hS 0).2
  have hbl := bytesOf_len v
  have hTk : ∀ n X, (S n ++ X).take 3 = S n := fun n X => by rw [List.take_append_of_le_length (by rw [(hS n).2]; exact Nat.le_refl _), List.take_of_length_le (by rw [(hS n).2]; exact Nat.le_refl _)]
  obtain ⟨R, hR⟩ := fold_loop (E := ev) (C := callS ev fs) (Y := Y ++ [y]) (w := {}) (a := (loopsOf (bodyOf Go.Proofs.Try.f194))[0]?.getD .skip) (b := 0)
    v (fun _ (_ : Unit) (_ : Sec) => .inl ()) () (ex := fun (r : Empty) => nomatch r)
    (fun i _ st => st.H.take 3 = S (8 * i) ∧ LiveT [(0, .yl Y.length), (7, zVol v), (8, zI v.length), (9, zI i)] 3 st) (fun _ st => st.H.take 3 = S (8 * v.length) ∧ LiveT [] 3 st) (fun r => nomatch r)
    (fun i s st hi h => by
      obtain ⟨hB, h⟩ := h
      obtain ⟨tm, H, b⟩ := st
      simp only [bodyOf, Go.Proofs.Try.f194, Option.getD_some, loopsOf, rangesOf, List.nil_append, List.append_nil, List.cons_append, List.getElem?_cons_zero, List.getElem?_cons_succ]
      simp only [go_sem] at h
      obtain ⟨g0, g7, g8, g9, rfl⟩ := h
      simp only at hB
      obtain ⟨B, rfl⟩ : ∃ B, H = S (8 * i) ++ B := ⟨H.drop 3, by rw [← hB, List.take_append_drop]⟩
      obtain ⟨R2, hR2⟩ := fold_loop (E := ev) (C := callS ev fs) (Y := Y ++ [y]) (w := {}) (a := (loopsOf (bodyOf Go.Proofs.Try.f194))[1]?.getD .skip) (b := 2)
        (List.range 8) (fun _ (_ : Unit) (_ : Nat) => .inl ()) () (ex := fun (r : Empty) => nomatch r)
        (fun j _ st => st.H.take 3 = S (8 * i + j) ∧ LiveT [(0, .yl Y.length), (7, zVol v), (8, zI v.length), (9, zI i), (13, .agg (secRow v[i])), (14, zI j)] 3 st)
        (fun _ st => st.H.take 3 = S (8 * (i + 1)) ∧ LiveT [(0, .yl Y.length), (7, zVol v), (8, zI v.length), (9, zI i)] 3 st) (fun r => nomatch r)
        (fun j s st hj h => by
          obtain ⟨hB, h⟩ := h
          obtain ⟨tm, H, b⟩ := st
          simp only [bodyOf, Go.Proofs.Try.f194, Option.getD_some, loopsOf, rangesOf, List.nil_append, List.append_nil, List.cons_append, List.getElem?_cons_zero, List.getElem?_cons_succ]
          simp only [go_sem] at h
          obtain ⟨p0, p7, p8, p9, p13, p14, rfl⟩ := h
          simp only at hB
          obtain ⟨B, rfl⟩ : ∃ B, H = S (8 * i + j) ++ B := ⟨H.drop 3, by rw [← hB, List.take_append_drop]⟩
          have hj8 : j < 8 := by simpa using hj
          have hin : 8 * i + j < (bytesOf v).length := by omega
          have hyi := hy (8 * i + j) hin B
          have hjs : j < v[i].1.length := by rw [v[i].2]; exact hj8
          have hbe : (bytesOf v)[8 * i + j] = (v[i].1)[j] := by
            have := bytesOf_get v i j hi hj8
            rw [List.getElem?_eq_getElem hin, List.getElem?_eq_getElem hjs] at this
            exact Option.some.inj this
          rw [hbe] at hyi
          have hix : Go.Abs.valOf 1 false ((secRow v[i]).drop j) = some (.sc (.int .u8 (v[i].1)[j])) := by
            rw [List.drop_eq_getElem_cons (by rw [secRow_len]; exact hj8)]
            simp [Go.Abs.valOf, secRow]
          simp only [go_sem] at hyi
          simp [go_sem, p0, p7, p8, p9, p13, p14, hj8, hyj, hyi, hix, hTk, Nat.add_assoc, show j < 1000000000 by omega])
        (fun s st h => by
          obtain ⟨hB, h⟩ := h
          obtain ⟨tm, H, b⟩ := st
          simp only [bodyOf, Go.Proofs.Try.f194, Option.getD_some, loopsOf, rangesOf, List.nil_append, List.append_nil, List.cons_append, List.getElem?_cons_zero, List.getElem?_cons_succ]
          simp only [go_sem] at h
          obtain ⟨p0, p7, p8, p9, p13, p14, rfl⟩ := h
          simp only at hB
          simp [go_sem, p0, p7, p8, p9, p13, p14, Nat.mul_add, hB])
        (fun r => nomatch r)
      simp only [bodyOf, Go.Proofs.Try.f194, Option.getD_some, loopsOf, rangesOf, List.nil_append, List.append_nil, List.cons_append, List.getElem?_cons_zero, List.getElem?_cons_succ] at hR2
      rw [show (fun (_ : Nat) (_ : Unit) (_ : Nat) => (Sum.inl () : Unit ⊕ Empty)) = fun _ s x => Sum.inl ((fun (s : Unit) (_ : Nat) => s) s x) from rfl, foldE_fold] at hR2
      simp [go_sem] at hR2
      simp [go_sem, g0, g7, g8, g9, hi, hTk, hR2, (hS (8 * i)).2, show ¬ 3 + B.length < 3 by omega, show i < 1000000000 by omega])
    (fun s st h => by
      obtain ⟨hB, h⟩ := h
      obtain ⟨tm, H, b⟩ := st
      simp only [bodyOf, Go.Proofs.Try.f194, Option.getD_some, loopsOf, rangesOf, List.nil_append, List.append_nil, List.cons_append, List.getElem?_cons_zero, List.getElem?_cons_succ]
      simp only [go_sem] at h
      obtain ⟨g0, g7, g8, g9, rfl⟩ := h
      simp only at hB
      simp [go_sem, g8, g9, hB])
    (fun r => nomatch r)
  rw [show (fun (_ : Nat) (_ : Unit) (_ : Sec) => (Sum.inl () : Unit ⊕ Empty)) = fun _ s x => Sum.inl ((fun (s : Unit) (_ : Sec) => s) s x) from rfl, foldE_fold] at hR
  simp only [bodyOf, Go.Proofs.Try.f194, Option.getD_some, loopsOf, rangesOf, List.nil_append, List.append_nil, List.cons_append, List.getElem?_cons_zero, List.getElem?_cons_succ] at hR
  simp [go_sem] at hR
  have hT0 : (S 0).take 3 = S 0 := List.take_of_length_le (by rw [(hS _).2]; exact Nat.le_refl _)
  simp only [go_sem] at h0
  have e0 := fun hk => getE h0 hk
  rw [hbl]
  simp [go_sem, hlen, h0, e0, hR, hT0]

theorem f116_spec (v : Vol) (hl : v.length < 100000000) (Y : List YF) : callS ev fs 116 [zVol v] [] Y = some (.ret (zU64 (mDig (bytesOf v))), []) := by
  refine callS_by f116_eq rfl ?_
  simp only [bodyOf, Go.Proofs.Try.f116, Option.getD_some]
  have h := f193_spec (zVol v) 194 [.bp 0 0] (bytesOf v) (f194_yields v hl) Y
  simp only [go_sem] at h
  simp [go_sem, h]

theorem f195_spec (bs : List Int) (hl : bs.length < 1000000000) (Y : List YF) : callS ev fs 195 [zBytes bs] [] Y = some (.ret (zU64 (mDig bs)), []) := by
  refine callS_by f195_eq rfl ?_
  simp only [bodyOf, Go.Proofs.Try.f195, Option.getD_some]
  have h := f193_spec (zBytes bs) 233 [.bp 0 0] bs (f233_yields bs hl) Y
  simp only [go_sem] at h
  simp [go_sem, h]

theorem f197_spec (v : Vol) (hl : v.length < 1000000) (Y : List YF) : callS ev fs 197 [zVol v] [] Y = some (.ret (zBytes (bytesOf v)), []) := by
  refine callS_by f197_eq rfl ?_
  simp only [bodyOf, Go.Proofs.Try.f197, Option.getD_some]
  obtain ⟨R, hR⟩ := fold_loop (E := ev) (C := callS ev fs) (Y := Y) (w := w197) (a := (loopsOf (bodyOf Go.Proofs.Try.f197))[0]?.getD .skip) (b := 0) 
    v (fun _ out s => .inl (out ++ s.1)) ([] : List Int) (ex := fun (r : Empty) => nomatch r)
    (fun i out st => out.length = 8 * i ∧ Live [(0, zVol v), (3, .os 0 0 out.length out.length), (4, zI i)] [.own out.length 1 (out.map fun b => [zU8b b])] 0 st)
    (fun out => Live [(3, .os 0 0 out.length out.length)] [.own out.length 1 (out.map fun b => [zU8b b])] 0) (fun r => nomatch r)
    (fun i out st hi h => by
      obtain ⟨hol, h⟩ := h
      obtain ⟨tm, H, b⟩ := st
      simp only [bodyOf, Go.Proofs.Try.f197, Option.getD_some, loopsOf, rangesOf, List.nil_append, List.append_nil, List.cons_append, List.getElem?_cons_zero, List.getElem?_cons_succ]
      simp only [go_sem] at h
      obtain ⟨g0, g3, g4, rfl, rfl⟩ := h
      obtain ⟨R2, hR2⟩ := fold_loop (E := ev) (C := callS ev fs) (Y := Y) (w := w197) (a := (loopsOf (bodyOf Go.Proofs.Try.f197))[1]?.getD .skip) (b := 2) 
        v[i].1 (fun _ o b => .inl (o ++ [id b])) out (ex := fun (r : Empty) => nomatch r)
        (fun j o st => o.length = out.length + j ∧ Live [(0, zVol v), (3, .os 0 0 o.length o.length), (4, zI i), (5, zI j)] [.own o.length 1 (o.map fun b => [zU8b b])] 0 st)
        (fun o => Live [(0, zVol v), (3, .os 0 0 o.length o.length), (4, zI i)] [.own o.length 1 (o.map fun b => [zU8b b])] 0) (fun r => nomatch r)
        (fun j o st hj h => by
          obtain ⟨ho, h⟩ := h
          obtain ⟨tm, H, b⟩ := st
          simp only [bodyOf, Go.Proofs.Try.f197, Option.getD_some, loopsOf, rangesOf, List.nil_append, List.append_nil, List.cons_append, List.getElem?_cons_zero, List.getElem?_cons_succ]
          simp only [go_sem] at h
          obtain ⟨p0, p3, p4, p5, rfl, rfl⟩ := h
          have hj8 : j < 8 := by rw [v[i].2] at hj; exact hj
          have hr : room (out.length + j + 1) 1 = true := room_ok (by omega) (by omega) (by omega)
          have hix : (secRow v[i]).drop j = .sc (.int .u8 (v[i].1)[j]) :: (secRow v[i]).drop (j + 1) := by
            rw [List.drop_eq_getElem_cons (by rw [secRow_len]; exact hj8)]
            simp [secRow]
          have htk : (o.map fun b => [AV.sc (.int .u8 b)]).take (out.length + j) = o.map fun b => [AV.sc (.int .u8 b)] := List.take_of_length_le (by simp; omega)
          simp [go_sem, p0, p3, p4, p5, hi, hj8, hr, ho, hix, htk, show j < 1000000000 by omega]
          omega)
        (fun o st h => by
          obtain ⟨ho, h⟩ := h
          obtain ⟨tm, H, b⟩ := st
          simp only [bodyOf, Go.Proofs.Try.f197, Option.getD_some, loopsOf, rangesOf, List.nil_append, List.append_nil, List.cons_append, List.getElem?_cons_zero, List.getElem?_cons_succ]
          simp only [go_sem] at h
          obtain ⟨p0, p3, p4, p5, rfl, rfl⟩ := h
          rw [v[i].2] at p5
          simp [go_sem, p0, p3, p4, p5])
        (fun r => nomatch r)
      simp only [bodyOf, Go.Proofs.Try.f197, Option.getD_some, loopsOf, rangesOf, List.nil_append, List.append_nil, List.cons_append, List.getElem?_cons_zero, List.getElem?_cons_succ] at hR2
      rw [foldE_map, List.map_id] at hR2
      simp [go_sem] at hR2
      have h8 := v[i].2
      simp [go_sem, g0, g3, g4, hi, hR2, hol, h8, show i < 1000000000 by omega]
      omega)
    (fun out st h => by
      obtain ⟨hol, h⟩ := h
      obtain ⟨tm, H, b⟩ := st
      simp only [bodyOf, Go.Proofs.Try.f197, Option.getD_some, loopsOf, rangesOf, List.nil_append, List.append_nil, List.cons_append, List.getElem?_cons_zero, List.getElem?_cons_succ]
      simp only [go_sem] at h
      obtain ⟨g0, g3, g4, rfl, rfl⟩ := h
      simp [go_sem, g0, g3, g4])
    (fun r => nomatch r)
  have hf : foldE (ρ := Empty) (fun _ (out : List Int) (s : Sec) => .inl (out ++ s.1)) 0 [] v = .inl (bytesOf v) := by
    have key : ∀ (l : Vol) (i : Nat) (out : List Int), foldE (ρ := Empty) (fun _ (out : List Int) (s : Sec) => .inl (out ++ s.1)) i out l = .inl (out ++ bytesOf l) := by
      intro l
      induction l with
      | nil => intro i out; simp [foldE, bytesOf]
      | cons s l ih => intro i out; simp [foldE, ih, bytesOf]
    simpa using key v 0 []
  simp only [bodyOf, Go.Proofs.Try.f197, Option.getD_some, loopsOf, rangesOf, List.nil_append, List.append_nil, List.cons_append, List.getElem?_cons_zero, List.getElem?_cons_succ] at hR
  rw [hf] at hR
  simp [go_sem] at hR
  simp [go_sem, freeze_os, hR]
  done
end Go.Proofs.Ytlphdiccffnckaa

/- Layers 46 and 54: lineages in the reference; the law of forks. -/
namespace Go.Proofs.Ytlphdiccffnckaa
open Go Go.Abs

theorem f150_spec (l : List Sp) (hl : l.length < 1000000000) (Y : List YF) : callS ev fs 150 [zSps l] [] Y = some (.ret (zB (spOk sp0 l)), []) := by
  refine callS_by f150_eq rfl ?_
  simp only [bodyOf, Go.Proofs.Try.f150, Option.getD_some]
  obtain ⟨R, hR⟩ := fold_loop (E := ev) (C := callS ev fs) (Y := Y) (w := {}) (a := (loopsOf (bodyOf Go.Proofs.Try.f150))[0]?.getD .skip) (b := 0) 
    l spF sp0 (ex := fun _ => .ret)
    (fun i p st => spGood p ∧ (i = 0 → p = sp0) ∧ (∀ h : i - 1 < l.length, 0 < i → l[i - 1] = p) ∧ LiveT [(0, zSps l), (3, zI i)] 0 st)
    (fun p => LiveT [] 0)
    (fun _ st => st.tm.get 2 = zB false ∧ st.b = 0)
    (fun i p st hi h => by
      obtain ⟨hp, hz, hs, h⟩ := h
      obtain ⟨tm, H, b⟩ := st
      simp only [bodyOf, Go.Proofs.Try.f150, Option.getD_some, loopsOf, rangesOf, List.nil_append, List.append_nil, List.cons_append, List.getElem?_cons_zero, List.getElem?_cons_succ]
      simp only [go_sem] at h
      obtain ⟨h0, h3, rfl⟩ := h
      by_cases h00 : i = 0
      · subst h00
        obtain rfl := hz rfl
        by_cases c1 : ¬ l[0].f = 1
        · have hn : ¬ spNext sp0 l[0] := fun h => by simp only [spNext, sp0] at h; omega
          simp [go_sem, h0, h3, hi, hn, spF, c1]
        replace c1 : l[0].f = 1 := Decidable.not_not.1 c1
        by_cases c2 : l[0].t < 1
        · have hn : ¬ spNext sp0 l[0] := fun h => by simp only [spNext, sp0] at h; omega
          simp [go_sem, h0, h3, hi, hn, spF, c2, c1]
        by_cases c3 : (1073741824 : Int) < l[0].t
        · have hn : ¬ spNext sp0 l[0] := fun h => by simp only [spNext, sp0] at h; omega
          simp [go_sem, h0, h3, hi, hn, spF, c3, c1, c2]
        by_cases c4 : l[0].e < 1
        · have hn : ¬ spNext sp0 l[0] := fun h => by simp only [spNext, sp0] at h; omega
          simp [go_sem, h0, h3, hi, hn, spF, c4, c1, c2, c3]
        by_cases c5 : (1073741824 : Int) < l[0].e
        · have hn : ¬ spNext sp0 l[0] := fun h => by simp only [spNext, sp0] at h; omega
          simp [go_sem, h0, h3, hi, hn, spF, c5, c1, c2, c3, c4]
        have hn : spNext sp0 l[0] := by simp only [spNext, sp0]; omega
        have hg := spNext_good hp hn
        simp [go_sem, h0, h3, hi, hn, spF, hg, show IntKind.wrap .i64 1 = 1 by decide, c1, c2, c3, c4, c5]
      · obtain ⟨k, hki⟩ : ∃ k, i - 1 = k := ⟨i - 1, rfl⟩
        simp only [hki] at hs
        have hk : k < l.length := by omega
        obtain rfl := hs hk (by omega)
        have hk2 : (i : Int) - 1 = k := by omega
        have hk3 : 0 < i := by omega
        have hw := wrap64 (x := l[k].t + 1) (by unfold spGood at hp; omega)
        have hw2 := wrap64 (x := l[k].e + 1) (by unfold spGood at hp; omega)
        by_cases c1 : ¬ l[i].f = l[k].t + 1
        · have hn : ¬ spNext l[k] l[i] := fun h => by unfold spNext at h; omega
          simp [go_sem, h0, h3, hi, hn, spF, hk, hw, hw2, show k < 1000000000 by omega, show i < 1000000000 by omega, hk2, hk3, c1]
        replace c1 : l[i].f = l[k].t + 1 := Decidable.not_not.1 c1
        by_cases c2 : l[i].t < l[k].t + 1
        · have hn : ¬ spNext l[k] l[i] := fun h => by unfold spNext at h; omega
          simp [go_sem, h0, h3, hi, hn, spF, hk, hw, hw2, show k < 1000000000 by omega, show i < 1000000000 by omega, hk2, hk3, c2, c1]
        by_cases c3 : (1073741824 : Int) < l[i].t
        · have hn : ¬ spNext l[k] l[i] := fun h => by unfold spNext at h; omega
          simp [go_sem, h0, h3, hi, hn, spF, hk, hw, hw2, show k < 1000000000 by omega, show i < 1000000000 by omega, hk2, hk3, c3, c1, c2]
        by_cases c4 : l[i].e < l[k].e + 1
        · have hn : ¬ spNext l[k] l[i] := fun h => by unfold spNext at h; omega
          simp [go_sem, h0, h3, hi, hn, spF, hk, hw, hw2, show k < 1000000000 by omega, show i < 1000000000 by omega, hk2, hk3, c4, c1, c2, c3]
        by_cases c5 : (1073741824 : Int) < l[i].e
        · have hn : ¬ spNext l[k] l[i] := fun h => by unfold spNext at h; omega
          simp [go_sem, h0, h3, hi, hn, spF, hk, hw, hw2, show k < 1000000000 by omega, show i < 1000000000 by omega, hk2, hk3, c5, c1, c2, c3, c4]
        have hn : spNext l[k] l[i] := by unfold spGood at hp; unfold spNext; omega
        have hg := spNext_good hp hn
        simp [go_sem, h0, h3, hi, hn, spF, hk, hw, hw2, show k < 1000000000 by omega, show i < 1000000000 by omega, hk2, hk3, hg, c1, c2, c3, c4, c5])
    (fun p st h => by
      obtain ⟨hp, hz, hs, h⟩ := h
      obtain ⟨tm, H, b⟩ := st
      simp only [bodyOf, Go.Proofs.Try.f150, Option.getD_some, loopsOf, rangesOf, List.nil_append, List.append_nil, List.cons_append, List.getElem?_cons_zero, List.getElem?_cons_succ]
      simp only [go_sem] at h
      obtain ⟨h0, h3, rfl⟩ := h
      simp [go_sem, h0, h3])
    (fun _ h => by cases h)
  simp only [bodyOf, Go.Proofs.Try.f150, Option.getD_some, loopsOf, rangesOf, List.nil_append, List.append_nil, List.cons_append, List.getElem?_cons_zero, List.getElem?_cons_succ] at hR
  simp only [foldE_sp] at hR
  cases hs : spOk sp0 l
  · simp [hs, go_sem] at hR
    simp [sp0, spGood] at hR
    simp [go_sem, hR]
  · simp [hs, go_sem] at hR
    simp [sp0, spGood] at hR
    simp [go_sem, hR]

theorem f151_spec (a b : List Sp) (ha : a.length < 1000000000) (hb : b.length < 1000000000) (Y : List YF) :
    callS ev fs 151 [zSps a, zSps b] [] Y = some (.ret (.tup [zI (ancestor a b).1, zI (ancestor a b).2]), []) := by
  refine callS_by f151_eq rfl ?_
  simp only [bodyOf, Go.Proofs.Try.f151, Option.getD_some]
  have h1 := f150_spec a ha []
  have h2 := f150_spec b hb []
  simp only [go_sem] at h1 h2
  cases ca : spOk sp0 a
  · simp [go_sem, h1, ca, ancestor]
  cases cb : spOk sp0 b
  · simp [go_sem, h1, h2, ca, cb, ancestor]
  obtain ⟨R, hR⟩ := fold_loop (E := ev) (C := callS ev fs) (Y := Y) (w := {}) (a := (loopsOf (bodyOf Go.Proofs.Try.f151))[0]?.getD .skip) (b := 0) 
    (a.zip b) ancF ((0, 0) : Int × Int) (ex := fun _ => .ret)
    (fun i r st => LiveT [(0, zSps a), (1, zSps b), (6, zI r.1), (7, zI r.2), (8, zI i)] 0 st)
    (fun r st => LiveT [(6, zI r.1), (7, zI r.2)] 0 st)
    (fun r st => LiveT [(4, zI r.1), (5, zI r.2)] 0 st)
    (fun i r st hi h => by
      have hz : i < a.length ∧ i < b.length := by simpa [List.length_zip, Nat.lt_min] using hi
      obtain ⟨hia, hib⟩ := hz
      simp only [List.getElem_zip]
      obtain ⟨tm, H, b⟩ := st
      simp only [bodyOf, Go.Proofs.Try.f151, Option.getD_some, loopsOf, rangesOf, List.nil_append, List.append_nil, List.cons_append, List.getElem?_cons_zero, List.getElem?_cons_succ]
      simp only [go_sem] at h
      obtain ⟨h0, h1, h6, h7, h8, rfl⟩ := h
      by_cases c1 : ¬ a[i].e = b[i].e
      · simp [go_sem, h0, h1, h6, h7, h8, hia, hib, ancF, c1, show i < 1000000000 by omega]
      replace c1 := Decidable.not_not.1 c1
      by_cases c2 : a[i].t = b[i].t
      · simp [go_sem, h0, h1, h6, h7, h8, hia, hib, ancF, c1, c2, minI, show i < 1000000000 by omega]
      · simp [go_sem, h0, h1, h6, h7, h8, hia, hib, ancF, c1, c2, minI, show i < 1000000000 by omega])
    (fun r st h => by
      obtain ⟨tm, H, b⟩ := st
      simp only [bodyOf, Go.Proofs.Try.f151, Option.getD_some, loopsOf, rangesOf, List.nil_append, List.append_nil, List.cons_append, List.getElem?_cons_zero, List.getElem?_cons_succ]
      simp only [go_sem] at h
      obtain ⟨h0, h1, h6, h7, h8, rfl⟩ := h
      simp only [List.length_zip] at h8
      by_cases hab : a.length ≤ b.length
      · rw [Nat.min_eq_left hab] at h8
        simp [go_sem, h0, h1, h6, h7, h8]
      · rw [Nat.min_eq_right (by omega)] at h8
        simp [go_sem, h0, h1, h6, h7, h8, show b.length < a.length by omega])
    (fun _ h => by cases h)
  simp only [bodyOf, Go.Proofs.Try.f151, Option.getD_some, loopsOf, rangesOf, List.nil_append, List.append_nil, List.cons_append, List.getElem?_cons_zero, List.getElem?_cons_succ] at hR
  have hm : ancestor a b = match foldE ancF 0 (0, 0) (a.zip b) with
    | .inl r => r
    | .inr r => r := by
      simp only [ancestor, ca, cb, anc, if_true]
      cases foldE ancF 0 (0, 0) (a.zip b) <;> rfl
  rw [hm]
  cases hr : foldE ancF 0 (0, 0) (a.zip b) with
  | inl r =>
    simp only [hr] at hR
    simp [go_sem] at hR
    simp [go_sem, h1, h2, ca, cb, hR]
  | inr r =>
    simp only [hr] at hR
    simp [go_sem] at hR
    simp [go_sem, h1, h2, ca, cb, hR]

theorem f152_spec (l : List Sp) (hl : l.length < 1000000000) (Y : List YF) : callS ev fs 152 [zSps l] [] Y = some (.ret (zI (endT l)), []) := by
  refine callS_by f152_eq rfl ?_
  simp only [bodyOf, Go.Proofs.Try.f152, Option.getD_some]
  by_cases h0 : l = []
  · subst h0
    simp [go_sem, endT, sp0]
  have h0' : ¬ l.length = 0 := by simpa using h0
  have hlt : l.length - 1 < l.length := by omega
  have hi : (l.length : Int) - 1 = ((l.length - 1 : Nat) : Int) := by omega
  have he : endT l = (l[l.length - 1]).t := by simp [endT, List.getLast?_eq_getElem?, hlt]
  generalize hk : l.length - 1 = k at *
  simp [go_sem, h0, h0', hi, he, hlt, show k < 1000000000 by omega]

theorem f63_spec (a b : List Sp) (ha : a.length < 1000000000) (hb : b.length < 1000000000) (Y : List YF) :
    callS ev fs 63 [zSps a, zSps b] [] Y = some (.ret (.tup [zI (fork a b).1, zB (fork a b).2]), []) := by
  refine callS_by f63_eq rfl ?_
  simp only [bodyOf, Go.Proofs.Try.f63, Option.getD_some]
  have h1 := f150_spec a ha []
  have h2 := f150_spec b hb []
  have h3 := f151_spec a b ha hb []
  have h4 := f152_spec a ha []
  have h5 := f152_spec b hb []
  simp only [go_sem] at h1 h2 h3 h4 h5
  cases ca : spOk sp0 a
  · simp [go_sem, h1, ca, fork]
  cases cb : spOk sp0 b
  · simp [go_sem, h1, h2, ca, cb, fork]
  simp [ca, cb, ancestor] at h1 h2 h3
  by_cases h6 : (anc a b).1 < endT a
  · simp [go_sem, h1, h2, h3, h4, h5, ca, cb, fork, h6]
  · simp [go_sem, h1, h2, h3, h4, h5, ca, cb, fork, h6]

theorem f61_call : callS ev fs 61 [] [] [] = some (.ret (zB true), []) := callS_iff.2 ⟨60, by kernel_rfl⟩

theorem f13_spec (a b : List Sp) (Y : List YF) : callS ev fs 13 [zSps a, zSps b] [] Y = some (.ret (zB true), []) := by
  refine callS_by f13_eq rfl ?_
  simp only [bodyOf, Go.Proofs.Try.f13, Option.getD_some]
  have hw := f61_call
  simp only [go_sem] at hw
  by_cases h1 : 20 < a.length
  · simp [go_sem, hw, h1]
  by_cases h2 : 20 < b.length
  · simp [go_sem, hw, h1, h2]
  have h3 := f62_spec a b (by omega) (by omega) []
  have h4 := f63_spec a b (by omega) (by omega) []
  simp only [go_sem] at h3 h4
  simp [go_sem, hw, h1, h2, h3, h4]
end Go.Proofs.Ytlphdiccffnckaa

