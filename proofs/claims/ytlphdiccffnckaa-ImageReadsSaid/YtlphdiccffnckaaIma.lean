/- Layer 7: sizes. -/
import Derived.Test.YtlphdiccffnckaaFun
import Derived.Test.YtlphdiccffnckaaLop
namespace Go.Proofs.Ytlphdiccffnckaa
open Go Go.Abs

@[go_sem] def zI (n : Int) : AV := .sc (.int .i64 n)
@[go_sem] def zB (b : Bool) : AV := .sc (.bool b)
@[go_sem] def zInts (xs : List Int) : AV := .sl false 1 (xs.map fun n => [.sc (.int .i64 n)])
/-- A sector: eight bytes. -/
abbrev Sec := { l : List Int // l.length = 8 }
abbrev Vol := List Sec
abbrev Img := List Vol
def secRow (s : Sec) : List AV := s.1.map fun b => .sc (.int .u8 b)
@[go_sem] theorem secRow_len (s : Sec) : (secRow s).length = 8 := by simp [secRow, s.2]
@[go_sem] theorem secRow_take (s : Sec) : (secRow s).take 8 = secRow s := List.take_of_length_le (by simp [secRow_len])
theorem pureL_ints : ∀ (k : IntKind) (l : List Int), AV.pureL (l.map fun b => .sc (.int k b)) = true
  | _, [] => rfl
  | k, _ :: l => by simp only [List.map_cons, AV.pureL, AV.pure, Bool.true_and]; exact pureL_ints k l
theorem stillL_ints : ∀ (k : IntKind) (l : List Int), AV.stillL (l.map fun b => .sc (.int k b)) = true
  | _, [] => rfl
  | k, _ :: l => by simp only [List.map_cons, AV.stillL, AV.still, Bool.true_and]; exact stillL_ints k l
@[go_sem] theorem secRow_pure (s : Sec) : AV.pureL (secRow s) = true := pureL_ints _ _
@[go_sem] theorem secRow_still (s : Sec) : AV.stillL (secRow s) = true := stillL_ints _ _
theorem aggEq_ints (k : IntKind) : ∀ (a b : List Int), a.length = b.length → aggEq (a.map fun x => .sc (.int k x)) (b.map fun x => .sc (.int k x)) = some (decide (a = b))
  | [], [], _ => rfl
  | [], _ :: _, h => by simp at h
  | _ :: _, [], h => by simp at h
  | x :: a, y :: b, h => by
    simp only [List.map_cons, aggEq, scEq, if_true, Option.bind_some, aggEq_ints k a b (by simpa using h), Option.map_some]
    congr 1
    by_cases h1 : x = y <;> by_cases h2 : a = b <;> simp [h1, h2]
theorem secRow_eq (a b : Sec) : aggEq (secRow a) (secRow b) = some (decide (a = b)) := by
  unfold secRow
  rw [aggEq_ints _ _ _ (by rw [a.2, b.2])]
  congr 1
  simp [Subtype.ext_iff]
theorem shape_ints (k : IntKind) : ∀ (l : List Int), shapeOk (List.replicate l.length true) (l.map fun x => .sc (.int k x)) = true
  | [] => rfl
  | _ :: l => shape_ints k l
theorem shape_sec (s : Sec) : eqShape (ev.T.eqc 52) (secRow s) = true := by
  have h : ev.T.eqc 52 = some (List.replicate s.1.length true) := by rw [s.2]; rfl
  rw [h]
  exact shape_ints _ _
@[go_sem] theorem neq_sec (a b : Sec) : aBin ev.T .neq 52 (.agg (secRow a)) (.agg (secRow b)) = some (.sc (.bool (!decide (a = b)))) := by
  simp only [aBin, shape_sec, if_true, secRow_eq, Option.map_some]
@[go_sem] theorem eql_sec (a b : Sec) : aBin ev.T .eql 52 (.agg (secRow a)) (.agg (secRow b)) = some (.sc (.bool (decide (a = b)))) := by
  simp only [aBin, shape_sec, if_true, secRow_eq, Option.map_some]
@[go_sem] def zVol (v : Vol) : AV := .sl false 8 (v.map secRow)
@[go_sem] def zImg (im : Img) : AV := .sl false 1 (im.map fun v => [.sl false 8 (v.map secRow)])

def mFew (im : Img) : Bool := decide (im.length ≤ 9) && im.all fun v => decide (v.length ≤ 24)

theorem f19_spec (im : Img) (Y : List YF) : callS ev fs 19 [zImg im] [] Y = some (.ret (zB (mFew im)), []) := by
  refine callS_by f19_eq rfl ?_
  simp only [bodyOf, Go.Proofs.Try.f19, Option.getD_some]
  by_cases h1 : 9 < im.length
  · have hm : mFew im = false := by simp [mFew]; omega
    simp [go_sem, h1, hm]
  have hm : mFew im = !im.any fun v => decide (24 < v.length) := by
    simp only [mFew, show im.length ≤ 9 by omega, decide_true, Bool.true_and, List.not_any_eq_all_not]
    congr 1
    funext v
    rw [← decide_not]
    simp
  obtain ⟨R, hR⟩ := fold_loop (E := ev) (C := callS ev fs) (Y := Y) (w := {}) (a := (loopsOf (bodyOf Go.Proofs.Try.f19))[0]?.getD .skip) (b := 0) 
    im (fun _ (_ : Unit) v => if decide (24 < v.length) = true then .inr () else .inl ()) () (ex := fun _ => .ret)
    (fun i _ => Live [(0, zImg im), (3, zI i)] [] 0) (fun _ => Live [] [] 0) (fun _ => Live [(2, zB false)] [] 0)
    (fun i s st hi h => by
      obtain ⟨tm, H, b⟩ := st
      simp only [bodyOf, Go.Proofs.Try.f19, Option.getD_some, loopsOf, rangesOf, List.nil_append, List.append_nil, List.cons_append, List.getElem?_cons_zero, List.getElem?_cons_succ]
      simp only [go_sem] at h
      obtain ⟨h0, h3, rfl, rfl⟩ := h
      by_cases hp : 24 < im[i].length
      · simp [go_sem, h0, h3, hi, hp]
      · simp [go_sem, h0, h3, hi, hp, show i < 1000000000 by omega])
    (fun s st h => by
      obtain ⟨tm, H, b⟩ := st
      simp only [bodyOf, Go.Proofs.Try.f19, Option.getD_some, loopsOf, rangesOf, List.nil_append, List.append_nil, List.cons_append, List.getElem?_cons_zero, List.getElem?_cons_succ]
      simp only [go_sem] at h
      obtain ⟨h0, h3, rfl, rfl⟩ := h
      simp [go_sem, h0, h3])
    (fun _ h => by cases h)
  simp only [bodyOf, Go.Proofs.Try.f19, Option.getD_some, loopsOf, rangesOf, List.nil_append, List.append_nil, List.cons_append, List.getElem?_cons_zero, List.getElem?_cons_succ] at hR
  rw [foldE_any] at hR
  rw [hm]
  generalize im.any (fun v => decide (24 < v.length)) = r at hR ⊢
  cases r <;> simp [go_sem] at hR <;> simp [go_sem, h1, hR]

/-- The index of the first element of which a function says true. -/
theorem f85_spec (xs : List Int) (g : Nat) (caps : List AV) (p : Int → Bool) (hc : AV.pureL caps = true) (hl : xs.length < 1000000000)
    (hg : ∀ x ∈ xs, callS ev fs g (zI x :: caps) [] [] = some (.ret (zB (p x)), [])) (Y : List YF) :
    callS ev fs 85 [zInts xs, .fn g caps] [] Y = some (.ret (zI (match xs.findIdx? p with | some j => (j : Int) | none => -1)), []) := by
  refine callS_by f85_eq rfl ?_
  simp only [bodyOf, Go.Proofs.Try.f85, Option.getD_some]
  obtain ⟨R, hR⟩ := fold_loop (E := ev) (C := callS ev fs) (Y := Y) (w := {}) (a := (loopsOf (bodyOf Go.Proofs.Try.f85))[0]?.getD .skip) (b := 0) 
    xs (fun i (_ : Unit) x => if p x = true then .inr i else .inl ()) () (ex := fun _ => .ret)
    (fun i _ => Live [(0, zInts xs), (1, .fn g caps), (7, zI xs.length), (8, zI i)] [] 0) (fun _ => Live [] [] 0) (fun j => Live [(4, zI j)] [] 0)
    (fun i s st hi h => by
      obtain ⟨tm, H, b⟩ := st
      simp only [bodyOf, Go.Proofs.Try.f85, Option.getD_some, loopsOf, rangesOf, List.nil_append, List.append_nil, List.cons_append, List.getElem?_cons_zero, List.getElem?_cons_succ]
      simp only [go_sem] at h
      obtain ⟨h0, h1, h7, h8, rfl, rfl⟩ := h
      have hgx := hg xs[i] (List.getElem_mem hi)
      simp only [go_sem] at hgx
      cases hp : p xs[i] <;> simp [go_sem, h0, h1, h7, h8, hi, hp, hgx, hc, show i < 1000000000 by omega])
    (fun s st h => by
      obtain ⟨tm, H, b⟩ := st
      simp only [bodyOf, Go.Proofs.Try.f85, Option.getD_some, loopsOf, rangesOf, List.nil_append, List.append_nil, List.cons_append, List.getElem?_cons_zero, List.getElem?_cons_succ]
      simp only [go_sem] at h
      obtain ⟨h0, h1, h7, h8, rfl, rfl⟩ := h
      simp [go_sem, h0, h1, h7, h8])
    (fun _ h => by cases h)
  simp only [bodyOf, Go.Proofs.Try.f85, Option.getD_some, loopsOf, rangesOf, List.nil_append, List.append_nil, List.cons_append, List.getElem?_cons_zero, List.getElem?_cons_succ] at hR
  rw [foldE_idx] at hR
  cases hf : xs.findIdx? p <;> simp [go_sem, hf] at hR <;> simp [go_sem, hR]

theorem f20_spec (xs : List Int) (g : Nat) (caps : List AV) (p : Int → Bool) (hc : AV.pureL caps = true) (hl : xs.length < 1000000000)
    (hg : ∀ x ∈ xs, callS ev fs g (zI x :: caps) [] [] = some (.ret (zB (p x)), [])) (Y : List YF) :
    callS ev fs 20 [zInts xs, .fn g caps] [] Y = some (.ret (zB (xs.any p)), []) := by
  refine callS_by f20_eq rfl ?_
  simp only [bodyOf, Go.Proofs.Try.f20, Option.getD_some]
  have h := f85_spec xs g caps p hc hl hg []
  simp only [go_sem] at h
  have hm : xs.any p = (xs.findIdx? p).isSome := by rw [List.findIdx?_isSome]
  rw [hm]
  cases hf : xs.findIdx? p <;> simp [go_sem, hf] at h <;> simp [go_sem, h, hc]

theorem f21_spec (n : Int) (Y : List YF) : callS ev fs 21 [zI n] [] Y = some (.ret (zB (decide (100 < n) && decide (n < 4096))), []) := by
  refine callS_by f21_eq rfl ?_
  simp only [bodyOf, Go.Proofs.Try.f21, Option.getD_some]
  by_cases h1 : 100 < n
  · by_cases h2 : n < 4096 <;> simp [go_sem, h1, h2]
  · simp [go_sem, h1]

def badSize (n : Int) : Bool := decide (n < 1) || decide (4096 < n)
theorem f176_spec (n : Int) (Y : List YF) : callS ev fs 176 [zI n] [] Y = some (.ret (zB (badSize n)), []) := by
  refine callS_by f176_eq rfl ?_
  simp only [bodyOf, Go.Proofs.Try.f176, Option.getD_some]
  by_cases h1 : n < 1
  · simp [go_sem, h1, badSize]
  · by_cases h2 : 4096 < n <;> simp [go_sem, h1, h2, badSize]

def mSizes (xs : List Int) : Int := if xs.length < 1 ∨ xs.length > 8 then 6 else if xs.any badSize then 2 else 0
theorem mSizes_many {xs : List Int} (h : xs.length < 1 ∨ 8 < xs.length) : mSizes xs = 6 := if_pos h
theorem mSizes_fit {xs : List Int} (h1 : ¬ xs.length < 1) (h2 : ¬ 8 < xs.length) : mSizes xs = if xs.any badSize then 2 else 0 := if_neg (by omega)

theorem f88_spec (xs : List Int) (Y : List YF) : callS ev fs 88 [zInts xs] [] Y = some (.ret (zI (mSizes xs)), []) := by
  refine callS_by f88_eq rfl ?_
  simp only [bodyOf, Go.Proofs.Try.f88, Option.getD_some]
  by_cases h1 : xs.length < 1
  · simp [go_sem, h1, mSizes_many (.inl h1)]
  by_cases h2 : 8 < xs.length
  · simp [go_sem, h1, h2, mSizes_many (.inr h2)]
  have h := f20_spec xs 176 [] badSize rfl (by omega) (fun x _ => f176_spec x []) []
  simp only [go_sem] at h
  rw [mSizes_fit h1 h2]
  cases hb : xs.any badSize <;> rw [hb] at h <;> simp [go_sem, h1, h2, h]

theorem f91_spec (xs : List Int) (Y : List YF) : callS ev fs 91 [zInts xs] [] Y = some (.ret (zI (mSizes xs)), []) := by
  refine callS_by f91_eq rfl ?_
  simp only [bodyOf, Go.Proofs.Try.f91, Option.getD_some]
  by_cases h1 : xs.length < 1
  · simp [go_sem, h1, mSizes_many (.inl h1)]
  by_cases h2 : 8 < xs.length
  · simp [go_sem, h1, h2, mSizes_many (.inr h2)]
  obtain ⟨R, hR⟩ := fold_loop (E := ev) (C := callS ev fs) (Y := Y) (w := {}) (a := (loopsOf (bodyOf Go.Proofs.Try.f91))[0]?.getD .skip) (b := 0) 
    xs (fun _ (_ : Unit) x => if badSize x = true then .inr () else .inl ()) () (ex := fun _ => .ret)
    (fun i _ => Live [(0, zInts xs), (3, zI i)] [] 0) (fun _ => Live [] [] 0) (fun _ => Live [(2, zI 2)] [] 0)
    (fun i s st hi h => by
      obtain ⟨tm, H, b⟩ := st
      simp only [bodyOf, Go.Proofs.Try.f91, Option.getD_some, loopsOf, rangesOf, List.nil_append, List.append_nil, List.cons_append, List.getElem?_cons_zero, List.getElem?_cons_succ]
      simp only [go_sem] at h
      obtain ⟨h0, h3, rfl, rfl⟩ := h
      by_cases hp : xs[i] < 1
      · simp [go_sem, h0, h3, hi, hp, badSize]
      · by_cases hq : 4096 < xs[i] <;> simp [go_sem, h0, h3, hi, hp, hq, badSize, show i < 1000000000 by omega])
    (fun s st h => by
      obtain ⟨tm, H, b⟩ := st
      simp only [bodyOf, Go.Proofs.Try.f91, Option.getD_some, loopsOf, rangesOf, List.nil_append, List.append_nil, List.cons_append, List.getElem?_cons_zero, List.getElem?_cons_succ]
      simp only [go_sem] at h
      obtain ⟨h0, h3, rfl, rfl⟩ := h
      simp [go_sem, h0, h3])
    (fun _ h => by cases h)
  simp only [bodyOf, Go.Proofs.Try.f91, Option.getD_some, loopsOf, rangesOf, List.nil_append, List.append_nil, List.cons_append, List.getElem?_cons_zero, List.getElem?_cons_succ] at hR
  rw [foldE_any] at hR
  rw [mSizes_fit h1 h2]
  generalize xs.any badSize = r at hR ⊢
  cases r <;> simp [go_sem] at hR <;> simp [go_sem, h1, h2, hR]
end Go.Proofs.Ytlphdiccffnckaa
