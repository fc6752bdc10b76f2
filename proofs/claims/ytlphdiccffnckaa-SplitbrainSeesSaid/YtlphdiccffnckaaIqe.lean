/- For every input the law SplitbrainSees returns true: If two lineages go on from a common one in different epochs, they have forked exactly if both go on, and their ancestor is the end of the common one, or of the one that does not go on. No condition; what is read reads as it did. -/
import Derived.Test.YtlphdiccffnckaaPai
import Derived.Test.YtlphdiccffnckaaPar
import Derived.Test.YtlphdiccffnckaaFacd
namespace Go.Proofs.Ytlphdiccffnckaa
open Go Go.Abs Go.ChangeShapes Go.WideShapes Go.ChangeAt Go.RowKit

theorem readOk18 : (true && Go.Proofs.Try.prog.readableRec 94 && Go.Proofs.Try.prog.readableRec 94 && Go.Proofs.Try.prog.readableRec 94) = true := by kernel_rfl
theorem sizeOk18 : Nat.ble 250 Go.Proofs.Try.prog.types.size = true := by kernel_rfl
theorem hts18 : ∀ t ∈ Try.f18.params.toList, Go.Proofs.Try.prog.readableRec t = true ∧ t < Go.Proofs.Try.prog.types.size := by
  intro t ht
  have hr := readOk18
  have hs := Nat.le_of_ble_eq_true sizeOk18
  simp only [Bool.and_eq_true, Bool.true_and] at hr
  rw [show Try.f18.params.toList = [94, 94, 94] from rfl] at ht
  simp only [List.mem_cons, List.not_mem_nil, or_false] at ht
  rcases ht with rfl | rfl | rfl
  · exact ⟨hr.1.1, Nat.lt_of_lt_of_le (by decide) hs⟩
  · exact ⟨hr.1.2, Nat.lt_of_lt_of_le (by decide) hs⟩
  · exact ⟨hr.2, Nat.lt_of_lt_of_le (by decide) hs⟩

set_option maxRecDepth 100000 in
theorem splitbrainSees_lifted (os : Os) (started : os.Started) (H : Type) (enc : TypeId × Value → H) :
    ReturnsInHanded {} Try.checked os 18 .any (Rows.splitbrainSeesSpec.pre6 enc Try.prog Try.f18 Rows.splitbrainSeesRow.domain false) (Rows.splitbrainSeesSpec.post enc Try.prog Try.f18 false true false false) := by
  refine returnsInHanded_of_change (C := Try.checked) Try.own started (by kernel_rfl) Try.func18
    (ChangeSpec.witness6 (enc := enc) (C := Try.checked) false ⟨#[], #[.slice none 0 0, .slice none 0 0, .slice none 0 0], []⟩ 8 (by kernel_rfl) (by kernel_rfl) (by kernel_rfl) (by kernel_rfl)) ?_
  intro W base args ds gs before hval0 hW hcnd _
  have hval : ∀ (j : Nat) t v, Try.f18.params[j]? = some t → args[j]? = some v → Value.okWide Try.prog W .any base t v := hval0
  have hW' := hW
  obtain ⟨p, q, hA0, hV, rfl, hfz, hnd⟩ := hW
  have hA : DataW.TrodAll enc Try.prog W 0 (fun _ => true) true Try.f18.params.toList args.toList ds p := hA0
  rw [show Try.f18.params = #[94, 94, 94] from rfl] at hA hval
  obtain ⟨v0, v1, v2, d0, d1, d2, p0, p1, p2, rfl, rfl, rfl, h0, h1, h2⟩ := trodAll_three hA
  obtain ⟨rfl, rfl⟩ := trodVars_none hV
  obtain ⟨a0, g0, b0⟩ := arg_u8s _ _ _ base (hval 0 94 v0 rfl rfl) h0
  obtain ⟨a1, g1, b1⟩ := arg_u8s _ _ _ base (hval 1 94 v1 rfl rfl) h1
  obtain ⟨a2, g2, b2⟩ := arg_u8s _ _ _ base (hval 2 94 v2 rfl rfl) h2
  exact law_calls (s := Rows.splitbrainSeesSpec) sound gok (f := Try.f18) (tb := 4) rfl ut4 rfl Try.laidOut hts18 hW' ⟨rfl, rfl, rfl⟩
    (avs := [zU8s a0, zU8s a1, zU8s a2]) ⟨rfl, fun i c v hc hv => by
      match i with
      | 0 => cases hc; cases hv; exact .frz b0
      | 1 => cases hc; cases hv; exact .frz b1
      | 2 => cases hc; cases hv; exact .frz b2
      | i + 3 => simp at hc⟩ (f18_spec a0 a1 a2 g0.2 g1.2 g2.2 [])

set_option maxRecDepth 100000
theorem row18 : rowFacts Go.Proofs.Try.prog 18 Try.f18 Rows.splitbrainSeesSpec Rows.splitbrainSeesRow = true := by kernel_rfl
theorem splitbrainSees_holds : Rows.SplitbrainSeesSaid :=
  OpenClaim.holds_of_wide 18 Try.f18 rfl rfl rfl rfl rfl rfl rfl ⟨rfl, rfl, rfl, rfl, rfl⟩ rfl rfl rfl rfl rfl (by kernel_rfl) Try.func18 (joined_of facLaid facMaps facStops facKnobs facHeard facEnter facLift facMake facPlain row18)
    (of_decide_eq_true (by kernel_rfl)) (by unfold Func.isWrapper; first | (rw [if_pos (by decide +kernel)]; kernel_rfl) | (rw [if_neg (by decide +kernel)]; exact ⟨rfl, rfl⟩))
    (fun os started H enc _ => splitbrainSees_lifted os started H enc)
end Go.Proofs.Ytlphdiccffnckaa
