/- For every input the law ImageReads returns true: Read returns the contents, or the error, of the reference. No condition; what is read reads as it did. -/
import Derived.Test.YtlphdiccffnckaaJoi
import Derived.Test.YtlphdiccffnckaaFacd
import Derived.Test.YtlphdiccffnckaaInd
namespace Go.Proofs.Ytlphdiccffnckaa
open Go Go.Abs Go.ChangeShapes Go.WideShapes Go.ChangeAt Go.RowKit

theorem readOk7 : (true && Go.Proofs.Try.prog.readableRec 24 && Go.Proofs.Try.prog.readableRec 3 && Go.Proofs.Try.prog.readableRec 59) = true := by kernel_rfl
theorem sizeOk7 : Nat.ble 250 Go.Proofs.Try.prog.types.size = true := by kernel_rfl
theorem hts7 : ∀ t ∈ Try.f7.params.toList, Go.Proofs.Try.prog.readableRec t = true ∧ t < Go.Proofs.Try.prog.types.size := by
  intro t ht
  have hr := readOk7
  have hs := Nat.le_of_ble_eq_true sizeOk7
  simp only [Bool.and_eq_true, Bool.true_and] at hr
  rw [show Try.f7.params.toList = [24, 3, 59] from rfl] at ht
  simp only [List.mem_cons, List.not_mem_nil, or_false] at ht
  rcases ht with rfl | rfl | rfl
  · exact ⟨hr.1.1, Nat.lt_of_lt_of_le (by decide) hs⟩
  · exact ⟨hr.1.2, Nat.lt_of_lt_of_le (by decide) hs⟩
  · exact ⟨hr.2, Nat.lt_of_lt_of_le (by decide) hs⟩

set_option maxRecDepth 100000 in
theorem imageReads_lifted (os : Os) (started : os.Started) (H : Type) (enc : TypeId × Value → H) :
    ReturnsInHanded {} Try.checked os 7 .any (Rows.imageReadsSpec.pre6 enc Try.prog Try.f7 Rows.imageReadsRow.domain false) (Rows.imageReadsSpec.post enc Try.prog Try.f7 false true false false) := by
  refine returnsInHanded_of_change (C := Try.checked) Try.own started (by kernel_rfl) Try.func7
    (ChangeSpec.witness6 (enc := enc) (C := Try.checked) false ⟨#[], #[.slice none 0 0, .int .i64 0, .agg #[.int .i64 0, .int .i64 0]], []⟩ 8 (by kernel_rfl) (by kernel_rfl) (by kernel_rfl) (by kernel_rfl)) ?_
  intro W base args ds gs before hval0 hW hcnd _
  have hval : ∀ (j : Nat) t v, Try.f7.params[j]? = some t → args[j]? = some v → Value.okWide Try.prog W .any base t v := hval0
  have hW' := hW
  obtain ⟨p, q, hA0, hV, rfl, hfz, hnd⟩ := hW
  have hA : DataW.TrodAll enc Try.prog W 0 (fun _ => true) true Try.f7.params.toList args.toList ds p := hA0
  rw [show Try.f7.params = #[24, 3, 59] from rfl] at hA hval
  obtain ⟨v0, v1, v2, d0, d1, d2, p0, p1, p2, rfl, rfl, rfl, h0, h1, h2⟩ := trodAll_three hA
  obtain ⟨rfl, rfl⟩ := trodVars_none hV
  obtain ⟨a0, g0, b0⟩ := arg_img _ _ _ base (hval 0 24 v0 rfl rfl) h0
  obtain ⟨a1, g1, b1⟩ := arg_int _ _ _ base (hval 1 3 v1 rfl rfl) h1
  obtain ⟨a2, g2, b2⟩ := arg_ext _ _ _ base (hval 2 59 v2 rfl rfl) h2
  exact law_calls (s := Rows.imageReadsSpec) sound gok (f := Try.f7) (tb := 4) rfl ut4 rfl Try.laidOut hts7 hW' ⟨rfl, rfl, rfl⟩
    (avs := [zImg a0, zI a1, zExt a2]) ⟨rfl, fun i c v hc hv => by
      match i with
      | 0 => cases hc; cases hv; exact .frz b0
      | 1 => cases hc; cases hv; exact .frz b1
      | 2 => cases hc; cases hv; exact .frz b2
      | i + 3 => simp at hc⟩ (f7_spec a0 a1 a2 [])

set_option maxRecDepth 100000
theorem row7 : rowFacts Go.Proofs.Try.prog 7 Try.f7 Rows.imageReadsSpec Rows.imageReadsRow = true := by kernel_rfl
theorem imageReads_holds : Rows.ImageReadsSaid :=
  OpenClaim.holds_of_wide 7 Try.f7 rfl rfl rfl rfl rfl rfl rfl ⟨rfl, rfl, rfl, rfl, rfl⟩ rfl rfl rfl rfl rfl (by kernel_rfl) Try.func7 (joined_of facLaid facMaps facStops facKnobs facHeard facEnter facLift facMake facPlain row7)
    (of_decide_eq_true (by kernel_rfl)) (by unfold Func.isWrapper; first | (rw [if_pos (by decide +kernel)]; kernel_rfl) | (rw [if_neg (by decide +kernel)]; exact ⟨rfl, rfl⟩))
    (fun os started H enc _ => imageReads_lifted os started H enc)
end Go.Proofs.Ytlphdiccffnckaa
