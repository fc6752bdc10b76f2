/- For every input the law SplitbrainFinds returns true: Diverged and Resolve return the results of the reference for all sites and winners. No condition; what is read reads as it did. -/
import Derived.Test.YtlphdiccffnckaaPap
import Derived.Test.YtlphdiccffnckaaFacd
import Derived.Test.YtlphdiccffnckaaPar
namespace Go.Proofs.Ytlphdiccffnckaa
open Go Go.Abs Go.ChangeShapes Go.WideShapes Go.ChangeAt Go.RowKit

theorem readOk14 : (true && Go.Proofs.Try.prog.readableRec 74 && Go.Proofs.Try.prog.readableRec 3) = true := by kernel_rfl
theorem sizeOk14 : Nat.ble 250 Go.Proofs.Try.prog.types.size = true := by kernel_rfl
theorem hts14 : ∀ t ∈ Try.f14.params.toList, Go.Proofs.Try.prog.readableRec t = true ∧ t < Go.Proofs.Try.prog.types.size := by
  intro t ht
  have hr := readOk14
  have hs := Nat.le_of_ble_eq_true sizeOk14
  simp only [Bool.and_eq_true, Bool.true_and] at hr
  rw [show Try.f14.params.toList = [74, 3] from rfl] at ht
  simp only [List.mem_cons, List.not_mem_nil, or_false] at ht
  rcases ht with rfl | rfl
  · exact ⟨hr.1, Nat.lt_of_lt_of_le (by decide) hs⟩
  · exact ⟨hr.2, Nat.lt_of_lt_of_le (by decide) hs⟩

set_option maxRecDepth 100000 in
theorem splitbrainFinds_lifted (os : Os) (started : os.Started) (H : Type) (enc : TypeId × Value → H) :
    ReturnsInHanded {} Try.checked os 14 .any (Rows.splitbrainFindsSpec.pre6 enc Try.prog Try.f14 Rows.splitbrainFindsRow.domain false) (Rows.splitbrainFindsSpec.post enc Try.prog Try.f14 false true false false) := by
  refine returnsInHanded_of_change (C := Try.checked) Try.own started (by kernel_rfl) Try.func14
    (ChangeSpec.witness6 (enc := enc) (C := Try.checked) false ⟨#[], #[.slice none 0 0, .int .i64 0], []⟩ 8 (by kernel_rfl) (by kernel_rfl) (by kernel_rfl) (by kernel_rfl)) ?_
  intro W base args ds gs before hval0 hW hcnd _
  have hval : ∀ (j : Nat) t v, Try.f14.params[j]? = some t → args[j]? = some v → Value.okWide Try.prog W .any base t v := hval0
  have hW' := hW
  obtain ⟨p, q, hA0, hV, rfl, hfz, hnd⟩ := hW
  have hA : DataW.TrodAll enc Try.prog W 0 (fun _ => true) true Try.f14.params.toList args.toList ds p := hA0
  rw [show Try.f14.params = #[74, 3] from rfl] at hA hval
  obtain ⟨v0, v1, d0, d1, p0, p1, rfl, rfl, rfl, h0, h1⟩ := trodAll_two hA
  obtain ⟨rfl, rfl⟩ := trodVars_none hV
  obtain ⟨a0, g0, b0⟩ := arg_sites _ _ _ base (hval 0 74 v0 rfl rfl) h0
  obtain ⟨a1, g1, b1⟩ := arg_int _ _ _ base (hval 1 3 v1 rfl rfl) h1
  exact law_calls (s := Rows.splitbrainFindsSpec) sound gok (f := Try.f14) (tb := 4) rfl ut4 rfl Try.laidOut hts14 hW' ⟨rfl, rfl, rfl⟩
    (avs := [zSites a0, zI a1]) ⟨rfl, fun i c v hc hv => by
      match i with
      | 0 => cases hc; cases hv; exact .frz b0
      | 1 => cases hc; cases hv; exact .frz b1
      | i + 2 => simp at hc⟩ (f14_spec a0 a1 [])

set_option maxRecDepth 100000
theorem row14 : rowFacts Go.Proofs.Try.prog 14 Try.f14 Rows.splitbrainFindsSpec Rows.splitbrainFindsRow = true := by kernel_rfl
theorem splitbrainFinds_holds : Rows.SplitbrainFindsSaid :=
  OpenClaim.holds_of_wide 14 Try.f14 rfl rfl rfl rfl rfl rfl rfl ⟨rfl, rfl, rfl, rfl, rfl⟩ rfl rfl rfl rfl rfl (by kernel_rfl) Try.func14 (joined_of facLaid facMaps facStops facKnobs facHeard facEnter facLift facMake facPlain row14)
    (of_decide_eq_true (by kernel_rfl)) (by unfold Func.isWrapper; first | (rw [if_pos (by decide +kernel)]; kernel_rfl) | (rw [if_neg (by decide +kernel)]; exact ⟨rfl, rfl⟩))
    (fun os started H enc _ => splitbrainFinds_lifted os started H enc)
end Go.Proofs.Ytlphdiccffnckaa
