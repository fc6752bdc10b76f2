/- For every input the law ImageMakes returns true, and what is read reads as it did. No condition. -/
import Derived.Test.YtlphdiccffnckaaJoi
import Derived.Test.YtlphdiccffnckaaFacd
namespace Go.Proofs.Ytlphdiccffnckaa
open Go Go.Abs Go.ChangeShapes Go.WideShapes Go.ChangeAt Go.RowKit

theorem readB : (Go.Proofs.Try.prog.readableRec 22 && Go.Proofs.Try.prog.readableRec 24) = true := by kernel_rfl
theorem sizeB : Nat.ble 280 Go.Proofs.Try.prog.types.size = true := by kernel_rfl
theorem hts3 : ∀ t ∈ Try.f3.params.toList, Go.Proofs.Try.prog.readableRec t = true ∧ t < Go.Proofs.Try.prog.types.size := by
  intro t ht
  have hr := readB
  have hs := Nat.le_of_ble_eq_true sizeB
  simp only [Bool.and_eq_true] at hr
  rw [show Try.f3.params.toList = [22, 24] from rfl] at ht
  simp only [List.mem_cons, List.not_mem_nil, or_false] at ht
  rcases ht with rfl | rfl
  · exact ⟨hr.1, Nat.lt_of_lt_of_le (by decide) hs⟩
  · exact ⟨hr.2, Nat.lt_of_lt_of_le (by decide) hs⟩

set_option maxRecDepth 100000 in
theorem imageMakes_lifted (os : Os) (started : os.Started) (H : Type) (enc : TypeId × Value → H) :
    ReturnsInHanded {} Try.checked os 3 .any (Rows.imageMakesSpec.pre6 enc Try.prog Try.f3 Rows.imageMakesRow.domain false) (Rows.imageMakesSpec.post enc Try.prog Try.f3 false true false false) := by
  refine returnsInHanded_of_change (C := Try.checked) Try.own started (by kernel_rfl) Try.func3
    (ChangeSpec.witness6 (enc := enc) (C := Try.checked) false ⟨#[], #[.slice none 0 0, .slice none 0 0], []⟩ 8 (by kernel_rfl) (by kernel_rfl) (by kernel_rfl) (by kernel_rfl)) ?_
  intro W base args ds gs before hval0 hW hcnd _
  have hval : ∀ (j : Nat) t v, Try.f3.params[j]? = some t → args[j]? = some v → Value.okWide Try.prog W .any base t v := hval0
  have hW' := hW
  obtain ⟨p, q, hA0, hV, rfl, hfz, hnd⟩ := hW
  have hA : DataW.TrodAll enc Try.prog W 0 (fun _ => true) true Try.f3.params.toList args.toList ds p := hA0
  rw [show Try.f3.params = #[22, 24] from rfl] at hA hval
  obtain ⟨v0, v1, d0, d1, p0, p1, rfl, rfl, rfl, h0, h1⟩ := trodAll_two hA
  obtain ⟨rfl, rfl⟩ := trodVars_none hV
  obtain ⟨a, _, ha⟩ := arg_ints _ _ _ base (hval 0 22 v0 rfl rfl) h0
  obtain ⟨b, _, hb⟩ := arg_img _ _ _ base (hval 1 24 v1 rfl rfl) h1
  exact law_calls (s := Rows.imageMakesSpec) sound gok (f := Try.f3) (tb := 4) rfl ut4 rfl Try.laidOut hts3 hW' ⟨rfl, rfl, rfl⟩
    (avs := [zInts a, zImg b]) ⟨rfl, fun i c v hc hv => by
      match i with
      | 0 => cases hc; cases hv; exact .frz ha
      | 1 => cases hc; cases hv; exact .frz hb
      | i + 2 => simp at hc⟩ (f3_spec a b)

set_option maxRecDepth 100000
theorem rowMakes : rowFacts Go.Proofs.Try.prog 3 Try.f3 Rows.imageMakesSpec Rows.imageMakesRow = true := by kernel_rfl
theorem imageMakes_holds : Rows.ImageMakesSaid :=
  OpenClaim.holds_of_wide 3 Try.f3 rfl rfl rfl rfl rfl rfl rfl ⟨rfl, rfl, rfl, rfl, rfl⟩ rfl rfl rfl rfl rfl (by kernel_rfl) Try.func3 (joined_of facLaid facMaps facStops facKnobs facHeard facEnter facLift facMake facPlain rowMakes)
    (of_decide_eq_true (by kernel_rfl)) (by unfold Func.isWrapper; first | (rw [if_pos (by decide +kernel)]; kernel_rfl) | (rw [if_neg (by decide +kernel)]; exact ⟨rfl, rfl⟩))
    (fun os started H enc _ => imageMakes_lifted os started H enc)
end Go.Proofs.Ytlphdiccffnckaa
