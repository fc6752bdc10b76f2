/- For every input the law SplitbrainCombines returns true: Merging two images that were changed independently applies both, where they are not in conflict; exchanging them exchanges only what is in conflict; and merging an unchanged one returns the other one. No condition; what is read reads as it did. -/
import Derived.Test.YtlphdiccffnckaaPai
import Derived.Test.YtlphdiccffnckaaFacd
import Derived.Test.YtlphdiccffnckaaPas
namespace Go.Proofs.Ytlphdiccffnckaa
open Go Go.Abs Go.ChangeShapes Go.WideShapes Go.ChangeAt Go.RowKit

theorem readOk17 : (true && Go.Proofs.Try.prog.readableRec 24 && Go.Proofs.Try.prog.readableRec 134) = true := by kernel_rfl
theorem sizeOk17 : Nat.ble 250 Go.Proofs.Try.prog.types.size = true := by kernel_rfl
theorem hts17 : ∀ t ∈ Try.f17.params.toList, Go.Proofs.Try.prog.readableRec t = true ∧ t < Go.Proofs.Try.prog.types.size := by
  intro t ht
  have hr := readOk17
  have hs := Nat.le_of_ble_eq_true sizeOk17
  simp only [Bool.and_eq_true, Bool.true_and] at hr
  rw [show Try.f17.params.toList = [24, 134] from rfl] at ht
  simp only [List.mem_cons, List.not_mem_nil, or_false] at ht
  rcases ht with rfl | rfl
  · exact ⟨hr.1, Nat.lt_of_lt_of_le (by decide) hs⟩
  · exact ⟨hr.2, Nat.lt_of_lt_of_le (by decide) hs⟩

set_option maxRecDepth 100000 in
theorem splitbrainCombines_lifted (os : Os) (started : os.Started) (H : Type) (enc : TypeId × Value → H) :
    ReturnsInHanded {} Try.checked os 17 .any (Rows.splitbrainCombinesSpec.pre6 enc Try.prog Try.f17 Rows.splitbrainCombinesRow.domain false) (Rows.splitbrainCombinesSpec.post enc Try.prog Try.f17 false true false false) := by
  refine returnsInHanded_of_change (C := Try.checked) Try.own started (by kernel_rfl) Try.func17
    (ChangeSpec.witness6 (enc := enc) (C := Try.checked) false ⟨#[], #[.slice none 0 0, .agg #[.slice none 0 0, .slice none 0 0]], []⟩ 8 (by kernel_rfl) (by kernel_rfl) (by kernel_rfl) (by kernel_rfl)) ?_
  intro W base args ds gs before hval0 hW hcnd _
  have hval : ∀ (j : Nat) t v, Try.f17.params[j]? = some t → args[j]? = some v → Value.okWide Try.prog W .any base t v := hval0
  have hW' := hW
  obtain ⟨p, q, hA0, hV, rfl, hfz, hnd⟩ := hW
  have hA : DataW.TrodAll enc Try.prog W 0 (fun _ => true) true Try.f17.params.toList args.toList ds p := hA0
  rw [show Try.f17.params = #[24, 134] from rfl] at hA hval
  obtain ⟨v0, v1, d0, d1, p0, p1, rfl, rfl, rfl, h0, h1⟩ := trodAll_two hA
  obtain ⟨rfl, rfl⟩ := trodVars_none hV
  obtain ⟨a0, g0, b0⟩ := arg_img _ _ _ base (hval 0 24 v0 rfl rfl) h0
  obtain ⟨a1, g1, b1⟩ := arg_chg _ _ _ base (hval 1 134 v1 rfl rfl) h1
  exact law_calls (s := Rows.splitbrainCombinesSpec) sound gok (f := Try.f17) (tb := 4) rfl ut4 rfl Try.laidOut hts17 hW' ⟨rfl, rfl, rfl⟩
    (avs := [zImg a0, zChg a1]) ⟨rfl, fun i c v hc hv => by
      match i with
      | 0 => cases hc; cases hv; exact .frz b0
      | 1 => cases hc; cases hv; exact .frz b1
      | i + 2 => simp at hc⟩ (f17_spec a0 a1.1 a1.2 [])

set_option maxRecDepth 100000
theorem row17 : rowFacts Go.Proofs.Try.prog 17 Try.f17 Rows.splitbrainCombinesSpec Rows.splitbrainCombinesRow = true := by kernel_rfl
theorem splitbrainCombines_holds : Rows.SplitbrainCombinesSaid :=
  OpenClaim.holds_of_wide 17 Try.f17 rfl rfl rfl rfl rfl rfl rfl ⟨rfl, rfl, rfl, rfl, rfl⟩ rfl rfl rfl rfl rfl (by kernel_rfl) Try.func17 (joined_of facLaid facMaps facStops facKnobs facHeard facEnter facLift facMake facPlain row17)
    (of_decide_eq_true (by kernel_rfl)) (by unfold Func.isWrapper; first | (rw [if_pos (by decide +kernel)]; kernel_rfl) | (rw [if_neg (by decide +kernel)]; exact ⟨rfl, rfl⟩))
    (fun os started H enc _ => splitbrainCombines_lifted os started H enc)
end Go.Proofs.Ytlphdiccffnckaa
