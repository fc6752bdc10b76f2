/- Reading an extent of an image. -/
import Derived.Test.YtlphdiccffnckaaIml
import Derived.Test.YtlphdiccffnckaaImm
import Derived.Test.YtlphdiccffnckaaNil
namespace Go.Proofs.Ytlphdiccffnckaa
open Go Go.Abs

theorem f103_nsl (n : Bool) : ∃ v H1 v', callS ev fs 103 [.nsl n 8] [] [] = some (.ret v, H1) ∧ bareRet H1 v = some v' ∧ emptySl v' = true := by
  cases n
  · refine ⟨.os 0 0 0 1, [.own 1 8 []], .sl false 8 [], ?_, rfl, rfl⟩
    refine callS_by f103_eq rfl ?_
    simp only [bodyOf, Go.Proofs.Try.f103, Option.getD_some]
    simp [go_sem, room_ok]
  · refine ⟨.sc (.slice none 0 0), [], .sc (.slice none 0 0), ?_, rfl, rfl⟩
    refine callS_by f103_eq rfl ?_
    simp only [bodyOf, Go.Proofs.Try.f103, Option.getD_some]
    simp [go_sem]

/-- A clone, by value. -/
theorem clone_vol (v : Vol) (hl : v.length < 1000000000) (H : List Ent) (Y : List YF) : aCallFn (callS ev fs) Y .cln H (.fn 103 []) [.sl false 8 (v.map secRow)] = some (.val (.sl false 8 (v.map secRow)) H) :=
  clone_by f103_nsl (fun h => ⟨_, _, f103_spec v [] (by simpa using h) hl [], bareRet_vol v⟩) H Y

def okEx (n : Nat) (x : Ext) : Prop := 0 ≤ x.s ∧ 0 ≤ x.n ∧ x.s + x.n ≤ n
def mRead (im : Img) (k : Int) (x : Ext) : Vol × Int :=
  if mCheck im = 0 then
    if 0 ≤ k ∧ k < im.length then
      if 0 ≤ x.s ∧ 0 ≤ x.n ∧ x.s ≤ ((im[k.toNat]?).getD []).length ∧ x.n ≤ ((im[k.toNat]?).getD []).length - x.s then ((((im[k.toNat]?).getD []).drop x.s.toNat).take x.n.toNat, 0) else ([], 2)
    else ([], 7)
  else ([], mCheck im)
def zRead (im : Img) (k : Int) (x : Ext) : AV := if (mRead im k x).2 = 0 then zVol (mRead im k x).1 else .sc (.slice none 0 0)

theorem f36_spec (im : Img) (k : Int) (x : Ext) (hl : im.length < 100000000) (hi : ∀ v ∈ im, v.length < 100000000) (Y : List YF) :
    callS ev fs 36 [zImg im, zI k, zExt x] [] Y = some (.ret (.tup [zRead im k x, zI (mRead im k x).2]), []) := by
  refine callS_by f36_eq rfl ?_
  simp only [bodyOf, Go.Proofs.Try.f36, Option.getD_some]
  have h1 := f26_spec im hl []
  simp only [go_sem] at h1
  by_cases h0 : mCheck im = 0
  · by_cases h2 : k < 0
    · simp [go_sem, h1, h0, h2, zRead, mRead, show ¬ 0 ≤ k by omega]
    · by_cases h3 : (im.length : Int) ≤ k
      · simp [go_sem, h1, h0, h2, h3, zRead, mRead, show ¬ k < im.length by omega]
      · obtain ⟨n, rfl⟩ : ∃ n : Nat, k = n := ⟨k.toNat, by omega⟩
        have hn : n < im.length := by omega
        have hv := hi im[n] (List.getElem_mem hn)
        by_cases h4 : x.s < 0
        · simp [go_sem, h1, h0, h2, h3, hn, h4, zRead, mRead, show ¬ 0 ≤ x.s by omega]
        by_cases h5 : x.n < 0
        · simp [go_sem, h1, h0, h2, h3, hn, h4, h5, zRead, mRead, show ¬ 0 ≤ x.n by omega]
        by_cases h6 : (im[n].length : Int) < x.s
        · simp [go_sem, h1, h0, h2, h3, hn, h4, h5, h6, zRead, mRead, show ¬ x.s ≤ im[n].length by omega]
        have hw := wrap64 (x := (im[n].length : Int) - x.s) (by omega)
        by_cases h7 : (im[n].length : Int) - x.s < x.n
        · simp [go_sem, h1, h0, h2, h3, hn, h4, h5, h6, h7, hw, zRead, mRead, show ¬ x.n ≤ im[n].length - x.s by omega]
        have hw2 := wrap64 (x := x.s + x.n) (by omega)
        have hcl := clone_vol ((im[n].drop x.s.toNat).take x.n.toNat) (by simp; omega)
        simp only [List.map_take, List.map_drop] at hcl
        have e1 : (x.s + x.n).toNat - x.s.toNat = x.n.toNat := by omega
        simp [go_sem, h1, h0, h2, h3, hn, h4, h5, h6, h7, hw, hw2, hcl, e1, zRead, mRead, show 0 ≤ x.s by omega, show 0 ≤ x.n by omega, show x.s ≤ im[n].length by omega, show x.n ≤ im[n].length - x.s by omega, show 0 ≤ x.s + x.n by omega, show x.s.toNat ≤ (x.s + x.n).toNat by omega, show (x.s + x.n).toNat ≤ im[n].length by omega]
  · simp [go_sem, h1, h0, zRead, mRead]

theorem f37_spec (im : Img) (k : Int) (x : Ext) (hl : im.length < 100000000) (hi : ∀ v ∈ im, v.length < 100000000) (Y : List YF) :
    callS ev fs 37 [zImg im, zI k, zExt x] [] Y = some (.ret (.tup [zRead im k x, zI (mRead im k x).2]), []) := by
  refine callS_by f37_eq rfl ?_
  simp only [bodyOf, Go.Proofs.Try.f37, Option.getD_some]
  have h1 := f27_spec im hl []
  simp only [go_sem] at h1
  by_cases h0 : mCheck im = 0
  · by_cases h2 : k < 0
    · simp [go_sem, h1, h0, h2, zRead, mRead, show ¬ 0 ≤ k by omega]
    · by_cases h3 : (im.length : Int) ≤ k
      · simp [go_sem, h1, h0, h2, h3, zRead, mRead, show ¬ k < im.length by omega]
      · obtain ⟨n, rfl⟩ : ∃ n : Nat, k = n := ⟨k.toNat, by omega⟩
        have hn : n < im.length := by omega
        have hv := hi im[n] (List.getElem_mem hn)
        by_cases h4 : x.s < 0
        · simp [go_sem, h1, h0, h2, h3, hn, h4, zRead, mRead, show ¬ 0 ≤ x.s by omega]
        by_cases h5 : x.n < 0
        · simp [go_sem, h1, h0, h2, h3, hn, h4, h5, zRead, mRead, show ¬ 0 ≤ x.n by omega]
        by_cases h6 : (im[n].length : Int) < x.s
        · simp [go_sem, h1, h0, h2, h3, hn, h4, h5, h6, zRead, mRead, show ¬ x.s ≤ im[n].length by omega]
        have hw := wrap64 (x := (im[n].length : Int) - x.s) (by omega)
        by_cases h7 : (im[n].length : Int) - x.s < x.n
        · simp [go_sem, h1, h0, h2, h3, hn, h4, h5, h6, h7, hw, zRead, mRead, show ¬ x.n ≤ im[n].length - x.s by omega]
        have hw2 := wrap64 (x := x.s + x.n) (by omega)
        have e1 : (x.s + x.n).toNat - x.s.toNat = x.n.toNat := by omega
        have hr : room (min x.n.toNat (im[n].length - x.s.toNat)) 8 = true := room_ok (by omega) (by omega) (by omega)
        have hp : AV.pureLL (((im[n].map secRow).drop x.s.toNat).take x.n.toNat) = true := by
          rw [← List.map_drop, ← List.map_take]
          exact pureLL_map secRow_pure _
        simp [go_sem, h1, h0, h2, h3, hn, h4, h5, h6, h7, hw, hw2, hr, hp, e1, zRead, mRead, show 0 ≤ x.s by omega, show 0 ≤ x.n by omega, show x.s ≤ im[n].length by omega, show x.n ≤ im[n].length - x.s by omega, show 0 ≤ x.s + x.n by omega, show x.s.toNat ≤ (x.s + x.n).toNat by omega, show (x.s + x.n).toNat ≤ im[n].length by omega]
  · simp [go_sem, h1, h0, zRead, mRead]

theorem f38_nil' : callN ev fs 10 38 [.sc (.slice none 0 0), .sc (.slice none 0 0)] [] [] = some (.ret (zB true), []) := by kernel_rfl
theorem f38_nil : callS ev fs 38 [.sc (.slice none 0 0), .sc (.slice none 0 0)] [] [] = some (.ret (zB true), []) := callS_iff.2 ⟨10, f38_nil'⟩
theorem f38_read (im : Img) (k : Int) (x : Ext) (hi : ∀ v ∈ im, v.length < 100000000) : callS ev fs 38 [zRead im k x, zRead im k x] [] [] = some (.ret (zB true), []) := by
  unfold zRead
  by_cases h : (mRead im k x).2 = 0
  · rw [if_pos h]
    have hl : (mRead im k x).1.length < 1000000000 := by
      unfold mRead
      split
      · split
        · split
          · simp only [List.length_take, List.length_drop]
            cases hk : im[k.toNat]? with
            | none => simp
            | some v => have := hi v (List.mem_of_getElem? hk); simp; omega
          · simp
        · simp
      · simp
    have := f38_spec (mRead im k x).1 (mRead im k x).1 hl []
    simpa using this
  · rw [if_neg h]
    exact f38_nil

theorem zRead_pure (im : Img) (k : Int) (x : Ext) : AV.pure (zRead im k x) = true := by
  unfold zRead
  split <;> rfl
theorem f7_spec (im : Img) (k : Int) (x : Ext) (Y : List YF) : callS ev fs 7 [zImg im, zI k, zExt x] [] Y = some (.ret (zB true), []) := by
  refine callS_by f7_eq rfl ?_
  simp only [bodyOf, Go.Proofs.Try.f7, Option.getD_some]
  have h1 := f19_spec im []
  have h2 := f22_call
  simp only [go_sem] at h1 h2
  cases hf : mFew im
  · simp [go_sem, h1, h2, hf]
  · obtain ⟨hl, hv⟩ := few_len hf
    have h3 := f36_spec im k x (by omega) (fun v hv' => by have := hv v hv'; omega) []
    have h4 := f37_spec im k x (by omega) (fun v hv' => by have := hv v hv'; omega) []
    have h5 := f38_read im k x (fun v hv' => by have := hv v hv'; omega)
    have hp := zRead_pure im k x
    generalize zRead im k x = r at *
    simp only [go_sem] at h3 h4 h5
    simp [go_sem, h1, h2, h3, h4, h5, hf, hp]
end Go.Proofs.Ytlphdiccffnckaa
