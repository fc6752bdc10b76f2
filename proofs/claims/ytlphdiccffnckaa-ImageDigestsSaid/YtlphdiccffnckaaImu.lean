/- Layer 7: digests of pairs; the law ImageDigests. -/
import Derived.Test.YtlphdiccffnckaaImt
import Derived.Test.YtlphdiccffnckaaImc
namespace Go.Proofs.Ytlphdiccffnckaa
open Go Go.Abs

def bt (a : Int) (n : Nat) : Int := IntKind.wrap .u8 (shrK .u64 a n)
def pairBytes (a b : Int) : List Int := [bt a 0, bt a 8, bt a 16, bt a 24, bt a 32, bt a 40, bt a 48, bt a 56, bt b 0, bt b 8, bt b 16, bt b 24, bt b 32, bt b 40, bt b 48, bt b 56]

theorem f118_spec (v : Vol) (hl : v.length < 1000000) (Y : List YF) : callS ev fs 118 [zVol v] [] Y = some (.ret (zU64 (mDig (bytesOf v))), []) := by
  refine callS_by f118_eq rfl ?_
  simp only [bodyOf, Go.Proofs.Try.f118, Option.getD_some]
  have h1 := f197_spec v hl []
  have h2 := f196_spec (bytesOf v) (by have := bytesOf_len v; omega) []
  simp only [go_sem] at h1 h2
  simp [go_sem, h1, h2]

@[go_sem] theorem call_lend {C : CF} {Y : List YF} {H : List Ent} {g : Nat} {caps args : List AV} : aCallFn C Y .lend H (.fn g caps) args = match lendAll H args with
    | none => none
    | some vs => if AV.pureL caps = true then
        match C g (vs ++ caps) [] [] with
        | some (.ret v, _) => if AV.flat v = true then some (.val v H) else none
        | _ => none
      else none := rfl
@[go_sem] theorem slice_bp {T : TT} {H : List Ent} {t k off : Nat} {lo hi : Option AV} : aSlice T H t (.bp k off) lo hi none = match T.arr t with
    | some (n, z, _) => match bound 0 lo, bound n hi with
      | some l, some h => if l ≤ h ∧ h ≤ n ∧ l < n ∧ alive H (.bp k off) = true then some (.bxs k (off + l * z) (h - l) z) else none
      | _, _ => none
    | none => none := by
  unfold aSlice
  cases T.arr t with
  | some p =>
    obtain ⟨n, z, g⟩ := p
    simp only
    cases bound 0 lo with
    | none => rfl
    | some l => cases bound n hi <;> rfl
  | none =>
    simp only
    cases T.elem t with
    | none => rfl
    | some p => rfl
theorem room_n (n : Nat) (h : n < 1000) : room n 1 = true := room_ok (by omega) (by omega) (by omega)
theorem f119_spec (a b : Int) (Y : List YF) : callS ev fs 119 [zU64 a, zU64 b] [] Y = some (.ret (zU64 (mDig (pairBytes a b))), []) := by
  refine callS_by f119_eq rfl ?_
  simp only [bodyOf, Go.Proofs.Try.f119, Option.getD_some]
  have h := f196_spec (pairBytes a b) (by simp [pairBytes]) []
  simp only [go_sem, pairBytes, bt, List.map_cons, List.map_nil] at h
  simp [go_sem, loopC_eq, wrap_lit, room_n, lendAll, lend, AV.flat, pairBytes, bt, h]
  done

theorem f117_spec (a b : Int) (Y : List YF) : callS ev fs 117 [zU64 a, zU64 b] [] Y = some (.ret (zU64 (mDig (pairBytes a b))), []) := by
  refine callS_by f117_eq rfl ?_
  simp only [bodyOf, Go.Proofs.Try.f117, Option.getD_some]
  have h := f195_spec (pairBytes a b) (by simp [pairBytes]) []
  simp only [go_sem, pairBytes, bt, List.map_cons, List.map_nil] at h
  simp [go_sem, loopC_eq, wrap_lit, lendAll, lend, snap, Go.Abs.chunks, AV.flat, pairBytes, bt, h]
  done

def mDigest (im : Img) : Int := im.foldl (fun d v => mDig (pairBytes d (mDig (bytesOf v)))) (mDig [])

theorem f116_nil' : callN ev fs 20 116 [.sc (.slice none 0 0)] [] [] = some (.ret (zU64 (mDig [])), []) := by kernel_rfl
theorem f118_nil' : callN ev fs 20 118 [.sc (.slice none 0 0)] [] [] = some (.ret (zU64 (mDig [])), []) := by kernel_rfl
theorem f116_nil : callS ev fs 116 [.sc (.slice none 0 0)] [] [] = some (.ret (zU64 (mDig [])), []) := callS_iff.2 ⟨20, f116_nil'⟩
theorem f118_nil : callS ev fs 118 [.sc (.slice none 0 0)] [] [] = some (.ret (zU64 (mDig [])), []) := callS_iff.2 ⟨20, f118_nil'⟩

theorem f52_spec (im : Img) (hl : im.length < 100000000) (hv : ∀ v ∈ im, v.length < 1000000) (Y : List YF) : callS ev fs 52 [zImg im] [] Y = some (.ret (zU64 (mDigest im)), []) := by
  refine callS_by f52_eq rfl ?_
  simp only [bodyOf, Go.Proofs.Try.f52, Option.getD_some]
  have h0 := f116_nil
  obtain ⟨R, hR⟩ := fold_loop (E := ev) (C := callS ev fs) (Y := Y) (w := {}) (a := (loopsOf (bodyOf Go.Proofs.Try.f52))[0]?.getD .skip) (b := 0) 
    im (fun _ d v => .inl (mDig (pairBytes d (mDig (bytesOf v))))) (mDig []) (ex := fun (r : Empty) => nomatch r)
    (fun i d => Live [(3, zU64 d), (7, zImg im), (8, zI im.length), (9, zI i)] [] 0) (fun d => Live [(3, zU64 d)] [] 0) (fun r => nomatch r)
    (fun i d st hi h => by
      obtain ⟨tm, H, b⟩ := st
      simp only [bodyOf, Go.Proofs.Try.f52, Option.getD_some, loopsOf, rangesOf, List.nil_append, List.append_nil, List.cons_append, List.getElem?_cons_zero, List.getElem?_cons_succ]
      simp only [go_sem] at h
      obtain ⟨g3, g7, g8, g9, rfl, rfl⟩ := h
      have h1 := f116_spec im[i] (by have := hv _ (List.getElem_mem hi); omega) []
      have h2 := f117_spec d (mDig (bytesOf im[i])) []
      simp only [go_sem] at h1 h2
      simp [go_sem, g3, g7, g8, g9, hi, h1, h2, show i < 1000000000 by omega])
    (fun d st h => by
      obtain ⟨tm, H, b⟩ := st
      simp only [bodyOf, Go.Proofs.Try.f52, Option.getD_some, loopsOf, rangesOf, List.nil_append, List.append_nil, List.cons_append, List.getElem?_cons_zero, List.getElem?_cons_succ]
      simp only [go_sem] at h
      obtain ⟨g3, g7, g8, g9, rfl, rfl⟩ := h
      simp [go_sem, g3, g8, g9])
    (fun r => nomatch r)
  simp only [bodyOf, Go.Proofs.Try.f52, Option.getD_some, loopsOf, rangesOf, List.nil_append, List.append_nil, List.cons_append, List.getElem?_cons_zero, List.getElem?_cons_succ] at hR
  rw [foldE_fold] at hR
  simp [go_sem] at hR
  simp only [go_sem] at h0
  simp [go_sem, h0, hR, mDigest]

theorem f53_spec (im : Img) (hl : im.length < 100000000) (hv : ∀ v ∈ im, v.length < 1000000) (Y : List YF) : callS ev fs 53 [zImg im] [] Y = some (.ret (zU64 (mDigest im)), []) := by
  refine callS_by f53_eq rfl ?_
  simp only [bodyOf, Go.Proofs.Try.f53, Option.getD_some]
  have h0 := f118_nil
  obtain ⟨R, hR⟩ := fold_loop (E := ev) (C := callS ev fs) (Y := Y) (w := {}) (a := (loopsOf (bodyOf Go.Proofs.Try.f53))[0]?.getD .skip) (b := 0) 
    im (fun _ d v => .inl (mDig (pairBytes d (mDig (bytesOf v))))) (mDig []) (ex := fun (r : Empty) => nomatch r)
    (fun i d => Live [(0, zImg im), (3, zU64 d), (4, zI i)] [] 0) (fun d => Live [(3, zU64 d)] [] 0) (fun r => nomatch r)
    (fun i d st hi h => by
      obtain ⟨tm, H, b⟩ := st
      simp only [bodyOf, Go.Proofs.Try.f53, Option.getD_some, loopsOf, rangesOf, List.nil_append, List.append_nil, List.cons_append, List.getElem?_cons_zero, List.getElem?_cons_succ]
      simp only [go_sem] at h
      obtain ⟨g0, g3, g4, rfl, rfl⟩ := h
      have h1 := f118_spec im[i] (by have := hv _ (List.getElem_mem hi); omega) []
      have h2 := f119_spec d (mDig (bytesOf im[i])) []
      simp only [go_sem] at h1 h2
      simp [go_sem, g0, g3, g4, hi, h1, h2, show i < 1000000000 by omega])
    (fun d st h => by
      obtain ⟨tm, H, b⟩ := st
      simp only [bodyOf, Go.Proofs.Try.f53, Option.getD_some, loopsOf, rangesOf, List.nil_append, List.append_nil, List.cons_append, List.getElem?_cons_zero, List.getElem?_cons_succ]
      simp only [go_sem] at h
      obtain ⟨g0, g3, g4, rfl, rfl⟩ := h
      simp [go_sem, g0, g3, g4])
    (fun r => nomatch r)
  simp only [bodyOf, Go.Proofs.Try.f53, Option.getD_some, loopsOf, rangesOf, List.nil_append, List.append_nil, List.cons_append, List.getElem?_cons_zero, List.getElem?_cons_succ] at hR
  rw [foldE_fold] at hR
  simp [go_sem] at hR
  simp only [go_sem] at h0
  simp [go_sem, h0, hR, mDigest]

theorem f11_spec (im : Img) (Y : List YF) : callS ev fs 11 [zImg im] [] Y = some (.ret (zB true), []) := by
  refine callS_by f11_eq rfl ?_
  simp only [bodyOf, Go.Proofs.Try.f11, Option.getD_some]
  have hw := f22_call
  have h19 := f19_spec im []
  simp only [go_sem] at hw h19
  cases hf : mFew im
  · simp [go_sem, h19, hf, hw]
  obtain ⟨i1, i2⟩ := few_len hf
  have h52 := f52_spec im (by omega) (fun v hv => by have := i2 v hv; omega) []
  have h53 := f53_spec im (by omega) (fun v hv => by have := i2 v hv; omega) []
  simp only [go_sem] at h52 h53
  simp [go_sem, h19, hf, hw, h52, h53]
end Go.Proofs.Ytlphdiccffnckaa
