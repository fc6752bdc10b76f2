/- For every input the law SplitbrainSettles returns true: Behind Resolve no site but the winner is a primary, none that is not fenced or resynchronizing has diverged from the winner, all sites are correct, and the others are unchanged. No condition; what is read reads as it did. -/
import Derived.Test.YtlphdiccffnckaaPap
import Derived.Test.YtlphdiccffnckaaFacd
import Derived.Test.YtlphdiccffnckaaPar
namespace Go.Proofs.Ytlphdiccffnckaa
open Go Go.Abs Go.ChangeShapes Go.WideShapes Go.ChangeAt Go.RowKit

theorem readOk16 : (true && Go.Proofs.Try.prog.readableRec 74 && Go.Proofs.Try.prog.readableRec 3) = true := by kernel_rfl
theorem sizeOk16 : Nat.ble 250 Go.Proofs.Try.prog.types.size = true := by kernel_rfl
theorem hts16 : ∀ t ∈ Try.f16.params.toList, Go.Proofs.Try.prog.readableRec t = true ∧ t < Go.Proofs.Try.prog.types.size := by
  intro t ht
  have hr := readOk16
  have hs := Nat.le_of_ble_eq_true sizeOk16
  simp only [Bool.and_eq_true, Bool.true_and] at hr
  rw [show Try.f16.params.toList = [74, 3] from rfl] at ht
  simp only [List.mem_cons, List.not_mem_nil, or_false] at ht
  rcases ht with rfl | rfl
  · exact ⟨hr.1, Nat.lt_of_lt_of_le (by decide) hs⟩
  · exact ⟨hr.2, Nat.lt_of_lt_of_le (by decide) hs⟩

set_option maxRecDepth 100000 in
theorem splitbrainSettles_lifted (os : Os) (started : os.Started) (H : Type) (enc : TypeId × Value → H) :
    ReturnsInHanded {} Try.checked os 16 .any (Rows.splitbrainSettlesSpec.pre6 enc Try.prog Try.f16 Rows.splitbrainSettlesRow.domain false) (Rows.splitbrainSettlesSpec.post enc Try.prog Try.f16 false true false false) := by
  refine returnsInHanded_of_change (C := Try.checked) Try.own started (by kernel_rfl) Try.func16
    (ChangeSpec.witness6 (enc := enc) (C := Try.checked) false ⟨#[], #[.slice none 0 0, .int .i64 0], []⟩ 8 (by kernel_rfl) (by kernel_rfl) (by kernel_rfl) (by kernel_rfl)) ?_
  intro W base args ds gs before hval0 hW hcnd _
  have hval : ∀ (j : Nat) t v, Try.f16.params[j]? = some t → args[j]? = some v → Value.okWide Try.prog W .any base t v := hval0
  have hW' := hW
  obtain ⟨p, q, hA0, hV, rfl, hfz, hnd⟩ := hW
  have hA : DataW.TrodAll enc Try.prog W 0 (fun _ => true) true Try.f16.params.toList args.toList ds p := hA0
  rw [show Try.f16.params = #[74, 3] from rfl] at hA hval
  obtain ⟨v0, v1, d0, d1, p0, p1, rfl, rfl, rfl, h0, h1⟩ := trodAll_two hA
  obtain ⟨rfl, rfl⟩ := trodVars_none hV
  obtain ⟨a0, g0, b0⟩ := arg_sites _ _ _ base (hval 0 74 v0 rfl rfl) h0
  obtain ⟨a1, g1, b1⟩ := arg_int _ _ _ base (hval 1 3 v1 rfl rfl) h1
  exact law_calls (s := Rows.splitbrainSettlesSpec) sound gok (f := Try.f16) (tb := 4) rfl ut4 rfl Try.laidOut hts16 hW' ⟨rfl, rfl, rfl⟩
    (avs := [zSites a0, zI a1]) ⟨rfl, fun i c v hc hv => by
      match i with
      | 0 => cases hc; cases hv; exact .frz b0
      | 1 => cases hc; cases hv; exact .frz b1
      | i + 2 => simp at hc⟩ (f16_spec a0 a1 [])

set_option maxRecDepth 100000
theorem row16 : rowFacts Go.Proofs.Try.prog 16 Try.f16 Rows.splitbrainSettlesSpec Rows.splitbrainSettlesRow = true := by kernel_rfl
theorem splitbrainSettles_holds : Rows.SplitbrainSettlesSaid :=
  OpenClaim.holds_of_wide 16 Try.f16 rfl rfl rfl rfl rfl rfl rfl ⟨rfl, rfl, rfl, rfl, rfl⟩ rfl rfl rfl rfl rfl (by kernel_rfl) Try.func16 (joined_of facLaid facMaps facStops facKnobs facHeard facEnter facLift facMake facPlain row16)
    (of_decide_eq_true (by kernel_rfl)) (by unfold Func.isWrapper; first | (rw [if_pos (by decide +kernel)]; kernel_rfl) | (rw [if_neg (by decide +kernel)]; exact ⟨rfl, rfl⟩))
    (fun os started H enc _ => splitbrainSettles_lifted os started H enc)
end Go.Proofs.Ytlphdiccffnckaa
