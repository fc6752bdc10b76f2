/- For every input the law ImageDigests returns true: Digest returns the digest of the reference. No condition; what is read reads as it did. -/
import Derived.Test.YtlphdiccffnckaaJoi
import Derived.Test.YtlphdiccffnckaaFacd
import Derived.Test.YtlphdiccffnckaaImu
namespace Go.Proofs.Ytlphdiccffnckaa
open Go Go.Abs Go.ChangeShapes Go.WideShapes Go.ChangeAt Go.RowKit

theorem readOk11 : (true && Go.Proofs.Try.prog.readableRec 24) = true := by kernel_rfl
theorem sizeOk11 : Nat.ble 250 Go.Proofs.Try.prog.types.size = true := by kernel_rfl
theorem hts11 : ∀ t ∈ Try.f11.params.toList, Go.Proofs.Try.prog.readableRec t = true ∧ t < Go.Proofs.Try.prog.types.size := by
  intro t ht
  have hr := readOk11
  have hs := Nat.le_of_ble_eq_true sizeOk11
  simp only [Bool.and_eq_true, Bool.true_and] at hr
  rw [show Try.f11.params.toList = [24] from rfl] at ht
  simp only [List.mem_cons, List.not_mem_nil, or_false] at ht
  subst ht
  · exact ⟨hr, Nat.lt_of_lt_of_le (by decide) hs⟩

set_option maxRecDepth 100000 in
theorem imageDigests_lifted (os : Os) (started : os.Started) (H : Type) (enc : TypeId × Value → H) :
    ReturnsInHanded {} Try.checked os 11 .any (Rows.imageDigestsSpec.pre6 enc Try.prog Try.f11 Rows.imageDigestsRow.domain false) (Rows.imageDigestsSpec.post enc Try.prog Try.f11 false true false false) := by
  refine returnsInHanded_of_change (C := Try.checked) Try.own started (by kernel_rfl) Try.func11
    (ChangeSpec.witness6 (enc := enc) (C := Try.checked) false ⟨#[], #[.slice none 0 0], []⟩ 8 (by kernel_rfl) (by kernel_rfl) (by kernel_rfl) (by kernel_rfl)) ?_
  intro W base args ds gs before hval0 hW hcnd _
  have hval : ∀ (j : Nat) t v, Try.f11.params[j]? = some t → args[j]? = some v → Value.okWide Try.prog W .any base t v := hval0
  have hW' := hW
  obtain ⟨p, q, hA0, hV, rfl, hfz, hnd⟩ := hW
  have hA : DataW.TrodAll enc Try.prog W 0 (fun _ => true) true Try.f11.params.toList args.toList ds p := hA0
  rw [show Try.f11.params = #[24] from rfl] at hA hval
  obtain ⟨v0, d0, rfl, rfl, h0⟩ := trodAll_one hA
  obtain ⟨rfl, rfl⟩ := trodVars_none hV
  obtain ⟨a0, g0, b0⟩ := arg_img _ _ _ base (hval 0 24 v0 rfl rfl) h0
  exact law_calls (s := Rows.imageDigestsSpec) sound gok (f := Try.f11) (tb := 4) rfl ut4 rfl Try.laidOut hts11 hW' ⟨rfl, rfl, rfl⟩
    (avs := [zImg a0]) ⟨rfl, fun i c v hc hv => by
      match i with
      | 0 => cases hc; cases hv; exact .frz b0
      | i + 1 => simp at hc⟩ (f11_spec a0 [])

set_option maxRecDepth 100000
theorem row11 : rowFacts Go.Proofs.Try.prog 11 Try.f11 Rows.imageDigestsSpec Rows.imageDigestsRow = true := by kernel_rfl
theorem imageDigests_holds : Rows.ImageDigestsSaid :=
  OpenClaim.holds_of_wide 11 Try.f11 rfl rfl rfl rfl rfl rfl rfl ⟨rfl, rfl, rfl, rfl, rfl⟩ rfl rfl rfl rfl rfl (by kernel_rfl) Try.func11 (joined_of facLaid facMaps facStops facKnobs facHeard facEnter facLift facMake facPlain row11)
    (of_decide_eq_true (by kernel_rfl)) (by unfold Func.isWrapper; first | (rw [if_pos (by decide +kernel)]; kernel_rfl) | (rw [if_neg (by decide +kernel)]; exact ⟨rfl, rfl⟩))
    (fun os started H enc _ => imageDigests_lifted os started H enc)
end Go.Proofs.Ytlphdiccffnckaa
