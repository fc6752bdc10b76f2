/- For every input the law SplitbrainForks returns true: Fork returns the result of the reference for all lineages. No condition; what is read reads as it did. -/
import Derived.Test.YtlphdiccffnckaaJof
import Derived.Test.YtlphdiccffnckaaFacd
import Derived.Test.YtlphdiccffnckaaInb
namespace Go.Proofs.Ytlphdiccffnckaa
open Go Go.Abs Go.ChangeShapes Go.WideShapes Go.ChangeAt Go.RowKit

theorem readOk13 : (true && Go.Proofs.Try.prog.readableRec 85 && Go.Proofs.Try.prog.readableRec 85) = true := by kernel_rfl
theorem sizeOk13 : Nat.ble 250 Go.Proofs.Try.prog.types.size = true := by kernel_rfl
theorem hts13 : ∀ t ∈ Try.f13.params.toList, Go.Proofs.Try.prog.readableRec t = true ∧ t < Go.Proofs.Try.prog.types.size := by
  intro t ht
  have hr := readOk13
  have hs := Nat.le_of_ble_eq_true sizeOk13
  simp only [Bool.and_eq_true, Bool.true_and] at hr
  rw [show Try.f13.params.toList = [85, 85] from rfl] at ht
  simp only [List.mem_cons, List.not_mem_nil, or_false] at ht
  rcases ht with rfl | rfl
  · exact ⟨hr.1, Nat.lt_of_lt_of_le (by decide) hs⟩
  · exact ⟨hr.2, Nat.lt_of_lt_of_le (by decide) hs⟩

set_option maxRecDepth 100000 in
theorem splitbrainForks_lifted (os : Os) (started : os.Started) (H : Type) (enc : TypeId × Value → H) :
    ReturnsInHanded {} Try.checked os 13 .any (Rows.splitbrainForksSpec.pre6 enc Try.prog Try.f13 Rows.splitbrainForksRow.domain false) (Rows.splitbrainForksSpec.post enc Try.prog Try.f13 false true false false) := by
  refine returnsInHanded_of_change (C := Try.checked) Try.own started (by kernel_rfl) Try.func13
    (ChangeSpec.witness6 (enc := enc) (C := Try.checked) false ⟨#[], #[.slice none 0 0, .slice none 0 0], []⟩ 8 (by kernel_rfl) (by kernel_rfl) (by kernel_rfl) (by kernel_rfl)) ?_
  intro W base args ds gs before hval0 hW hcnd _
  have hval : ∀ (j : Nat) t v, Try.f13.params[j]? = some t → args[j]? = some v → Value.okWide Try.prog W .any base t v := hval0
  have hW' := hW
  obtain ⟨p, q, hA0, hV, rfl, hfz, hnd⟩ := hW
  have hA : DataW.TrodAll enc Try.prog W 0 (fun _ => true) true Try.f13.params.toList args.toList ds p := hA0
  rw [show Try.f13.params = #[85, 85] from rfl] at hA hval
  obtain ⟨v0, v1, d0, d1, p0, p1, rfl, rfl, rfl, h0, h1⟩ := trodAll_two hA
  obtain ⟨rfl, rfl⟩ := trodVars_none hV
  obtain ⟨a0, g0, b0⟩ := arg_sps _ _ _ base (hval 0 85 v0 rfl rfl) h0
  obtain ⟨a1, g1, b1⟩ := arg_sps _ _ _ base (hval 1 85 v1 rfl rfl) h1
  exact law_calls (s := Rows.splitbrainForksSpec) sound gok (f := Try.f13) (tb := 4) rfl ut4 rfl Try.laidOut hts13 hW' ⟨rfl, rfl, rfl⟩
    (avs := [zSps a0, zSps a1]) ⟨rfl, fun i c v hc hv => by
      match i with
      | 0 => cases hc; cases hv; exact .frz b0
      | 1 => cases hc; cases hv; exact .frz b1
      | i + 2 => simp at hc⟩ (f13_spec a0 a1 [])

set_option maxRecDepth 100000
theorem row13 : rowFacts Go.Proofs.Try.prog 13 Try.f13 Rows.splitbrainForksSpec Rows.splitbrainForksRow = true := by kernel_rfl
theorem splitbrainForks_holds : Rows.SplitbrainForksSaid :=
  OpenClaim.holds_of_wide 13 Try.f13 rfl rfl rfl rfl rfl rfl rfl ⟨rfl, rfl, rfl, rfl, rfl⟩ rfl rfl rfl rfl rfl (by kernel_rfl) Try.func13 (joined_of facLaid facMaps facStops facKnobs facHeard facEnter facLift facMake facPlain row13)
    (of_decide_eq_true (by kernel_rfl)) (by unfold Func.isWrapper; first | (rw [if_pos (by decide +kernel)]; kernel_rfl) | (rw [if_neg (by decide +kernel)]; exact ⟨rfl, rfl⟩))
    (fun os started H enc _ => splitbrainForks_lifted os started H enc)
end Go.Proofs.Ytlphdiccffnckaa
