/- For every input the law SplitbrainMerges returns true: Conflicts and Merge return the results of the reference for all images. No condition; what is read reads as it did. -/
import Derived.Test.YtlphdiccffnckaaPai
import Derived.Test.YtlphdiccffnckaaFacd
import Derived.Test.YtlphdiccffnckaaPar
namespace Go.Proofs.Ytlphdiccffnckaa
open Go Go.Abs Go.ChangeShapes Go.WideShapes Go.ChangeAt Go.RowKit

theorem readOk15 : (true && Go.Proofs.Try.prog.readableRec 24 && Go.Proofs.Try.prog.readableRec 24 && Go.Proofs.Try.prog.readableRec 24) = true := by kernel_rfl
theorem sizeOk15 : Nat.ble 250 Go.Proofs.Try.prog.types.size = true := by kernel_rfl
theorem hts15 : ∀ t ∈ Try.f15.params.toList, Go.Proofs.Try.prog.readableRec t = true ∧ t < Go.Proofs.Try.prog.types.size := by
  intro t ht
  have hr := readOk15
  have hs := Nat.le_of_ble_eq_true sizeOk15
  simp only [Bool.and_eq_true, Bool.true_and] at hr
  rw [show Try.f15.params.toList = [24, 24, 24] from rfl] at ht
  simp only [List.mem_cons, List.not_mem_nil, or_false] at ht
  rcases ht with rfl | rfl | rfl
  · exact ⟨hr.1.1, Nat.lt_of_lt_of_le (by decide) hs⟩
  · exact ⟨hr.1.2, Nat.lt_of_lt_of_le (by decide) hs⟩
  · exact ⟨hr.2, Nat.lt_of_lt_of_le (by decide) hs⟩

set_option maxRecDepth 100000 in
theorem splitbrainMerges_lifted (os : Os) (started : os.Started) (H : Type) (enc : TypeId × Value → H) :
    ReturnsInHanded {} Try.checked os 15 .any (Rows.splitbrainMergesSpec.pre6 enc Try.prog Try.f15 Rows.splitbrainMergesRow.domain false) (Rows.splitbrainMergesSpec.post enc Try.prog Try.f15 false true false false) := by
  refine returnsInHanded_of_change (C := Try.checked) Try.own started (by kernel_rfl) Try.func15
    (ChangeSpec.witness6 (enc := enc) (C := Try.checked) false ⟨#[], #[.slice none 0 0, .slice none 0 0, .slice none 0 0], []⟩ 8 (by kernel_rfl) (by kernel_rfl) (by kernel_rfl) (by kernel_rfl)) ?_
  intro W base args ds gs before hval0 hW hcnd _
  have hval : ∀ (j : Nat) t v, Try.f15.params[j]? = some t → args[j]? = some v → Value.okWide Try.prog W .any base t v := hval0
  have hW' := hW
  obtain ⟨p, q, hA0, hV, rfl, hfz, hnd⟩ := hW
  have hA : DataW.TrodAll enc Try.prog W 0 (fun _ => true) true Try.f15.params.toList args.toList ds p := hA0
  rw [show Try.f15.params = #[24, 24, 24] from rfl] at hA hval
  obtain ⟨v0, v1, v2, d0, d1, d2, p0, p1, p2, rfl, rfl, rfl, h0, h1, h2⟩ := trodAll_three hA
  obtain ⟨rfl, rfl⟩ := trodVars_none hV
  obtain ⟨a0, g0, b0⟩ := arg_img _ _ _ base (hval 0 24 v0 rfl rfl) h0
  obtain ⟨a1, g1, b1⟩ := arg_img _ _ _ base (hval 1 24 v1 rfl rfl) h1
  obtain ⟨a2, g2, b2⟩ := arg_img _ _ _ base (hval 2 24 v2 rfl rfl) h2
  exact law_calls (s := Rows.splitbrainMergesSpec) sound gok (f := Try.f15) (tb := 4) rfl ut4 rfl Try.laidOut hts15 hW' ⟨rfl, rfl, rfl⟩
    (avs := [zImg a0, zImg a1, zImg a2]) ⟨rfl, fun i c v hc hv => by
      match i with
      | 0 => cases hc; cases hv; exact .frz b0
      | 1 => cases hc; cases hv; exact .frz b1
      | 2 => cases hc; cases hv; exact .frz b2
      | i + 3 => simp at hc⟩ (f15_spec a0 a1 a2 [])

set_option maxRecDepth 100000
theorem row15 : rowFacts Go.Proofs.Try.prog 15 Try.f15 Rows.splitbrainMergesSpec Rows.splitbrainMergesRow = true := by kernel_rfl
theorem splitbrainMerges_holds : Rows.SplitbrainMergesSaid :=
  OpenClaim.holds_of_wide 15 Try.f15 rfl rfl rfl rfl rfl rfl rfl ⟨rfl, rfl, rfl, rfl, rfl⟩ rfl rfl rfl rfl rfl (by kernel_rfl) Try.func15 (joined_of facLaid facMaps facStops facKnobs facHeard facEnter facLift facMake facPlain row15)
    (of_decide_eq_true (by kernel_rfl)) (by unfold Func.isWrapper; first | (rw [if_pos (by decide +kernel)]; kernel_rfl) | (rw [if_neg (by decide +kernel)]; exact ⟨rfl, rfl⟩))
    (fun os started H enc _ => splitbrainMerges_lifted os started H enc)
end Go.Proofs.Ytlphdiccffnckaa
