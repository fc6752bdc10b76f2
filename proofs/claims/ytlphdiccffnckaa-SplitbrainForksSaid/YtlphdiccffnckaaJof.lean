/- Readers for layers 46 and 54. -/
import Derived.Test.YtlphdiccffnckaaJoi
import Derived.Test.YtlphdiccffnckaaIna
namespace Go.Proofs.Ytlphdiccffnckaa
open Go Go.Abs Go.ChangeShapes Go.WideShapes Go.ChangeAt Go.RowKit

section
variable {H : Type} {enc : TypeId × Value → H} {W : World}
theorem fl142 : (fieldsOfDesc Go.Proofs.Try.t142.desc).toList = [fdOf Go.Proofs.Try.t142.desc 0, fdOf Go.Proofs.Try.t142.desc 1, fdOf Go.Proofs.Try.t142.desc 2] := rfl
theorem ut85 : Go.Proofs.Try.prog.underlying 85 = some (.slice 143) := by kernel_rfl
theorem c143 : Go.Proofs.Try.prog.cellsOf 143 = 3 := by kernel_rfl
def okSp (x : Sp) : Prop := (IntKind.min .i64 ≤ x.e ∧ x.e ≤ IntKind.max .i64) ∧ (IntKind.min .i64 ≤ x.f ∧ x.f ≤ IntKind.max .i64) ∧ (IntKind.min .i64 ≤ x.t ∧ x.t ≤ IntKind.max .i64)
theorem rd_sp : Rd enc Go.Proofs.Try.prog W 143 spRow okSp := by
  have h := cons' (enc := enc) (P := Go.Proofs.Try.prog) (W := W) (off := 0) (f := fdOf Go.Proofs.Try.t142.desc 0) (t' := 3) (z := 1) (n := 2) rfl rfl c3 rd_int (cons' (f := fdOf Go.Proofs.Try.t142.desc 1) (t' := 3) (z := 1) (n := 1) rfl rfl c3 rd_int (cons' (f := fdOf Go.Proofs.Try.t142.desc 2) (t' := 3) (z := 1) (n := 0) rfl rfl c3 rd_int RdF.nil))
  rw [← fl142] at h
  exact Rd.map (Rd.struct ut143 c143 h) (fun p => (⟨p.1, p.2.1, p.2.2.1⟩ : Sp)) (fun p h => ⟨h.1, h.2.1, h.2.2.1⟩) (fun p h => rfl)
theorem rd_sps : Rd enc Go.Proofs.Try.prog W 85 (fun l => [zSps l]) (fun l => l.length ≤ maxLen ∧ ∀ x ∈ l, okSp x) := Rd.slice ut85 c143 (by decide) rd_sp (fun _ _ => by simp [spRow])
theorem arg_sps : Arg1 enc Go.Proofs.Try.prog W 85 zSps (fun l => l.length ≤ maxLen ∧ ∀ x ∈ l, okSp x) := Arg1.cell (.inr (.inr ⟨_, ut85⟩)) rd_sps
end
end Go.Proofs.Ytlphdiccffnckaa
