/- From the evaluator to the statements: what is evaluated is what the program does; arguments are read. -/
import Derived.Test.YtlphdiccffnckaaImc
import Derived.Test.YtlphdiccffnckaaEqk
import Derived.Test.YtlphdiccffnckaaRow
import Derived.Test.YtlphdiccffnckaaRows
namespace Go.Proofs.Ytlphdiccffnckaa
open Go Go.Abs Go.ChangeShapes Go.WideShapes Go.ChangeAt Go.RowKit

theorem Try.own : ownKnob Go.Proofs.Try.prog.godebug = none := by kernel_rfl
theorem Try.laidOut : laidOutB Go.Proofs.Try.prog = true := by kernel_rfl

theorem ut3 : Go.Proofs.Try.prog.underlying 3 = some (.int .i64) := by kernel_rfl
theorem ut4 : Go.Proofs.Try.prog.underlying 4 = some .bool := by kernel_rfl
theorem ut5 : Go.Proofs.Try.prog.underlying 5 = some (.int .u8) := by kernel_rfl
theorem ut22 : Go.Proofs.Try.prog.underlying 22 = some (.slice 3) := by kernel_rfl
theorem ut24 : Go.Proofs.Try.prog.underlying 24 = some (.slice 40) := by kernel_rfl
theorem ut40 : Go.Proofs.Try.prog.underlying 40 = some (.slice 52) := by kernel_rfl
theorem ut52 : Go.Proofs.Try.prog.underlying 52 = some (.array 8 5) := by kernel_rfl
theorem c3 : Go.Proofs.Try.prog.cellsOf 3 = 1 := by kernel_rfl
theorem c5 : Go.Proofs.Try.prog.cellsOf 5 = 1 := by kernel_rfl
theorem c40 : Go.Proofs.Try.prog.cellsOf 40 = 1 := by kernel_rfl
theorem c52 : Go.Proofs.Try.prog.cellsOf 52 = 8 := by kernel_rfl
def fieldsOfDesc : TypeDesc → Array Field
  | .struct fs => fs
  | _ => #[]
theorem ut59 : Go.Proofs.Try.prog.underlying 59 = some (.struct (fieldsOfDesc Go.Proofs.Try.t58.desc)) := by kernel_rfl
theorem ut143 : Go.Proofs.Try.prog.underlying 143 = some (.struct (fieldsOfDesc Go.Proofs.Try.t142.desc)) := by kernel_rfl
theorem eqOk : EqOk Go.Proofs.Try.prog [(52, [true, true, true, true, true, true, true, true]), (59, [true, true]), (143, [true, true, true])] := by
  intro t k hk cs ds e w h h'
  simp only [List.lookup_cons] at hk
  split at hk
  · rename_i ht
    obtain rfl := beq_iff_eq.1 ht
    cases hk
    have hi : ∃ i, Go.Proofs.Try.prog.info? 5 = some i := Option.isSome_iff_exists.1 (by kernel_rfl)
    obtain ⟨i, hi⟩ := hi
    exact eqok_array ut52 hi c5 ut5 (by kernel_rfl) cs ds e w h h'
  split at hk
  · rename_i ht
    obtain rfl := beq_iff_eq.1 ht
    cases hk
    exact eqok_struct' (n := 2) ut59 (by kernel_rfl) (by kernel_rfl) (by kernel_rfl) (by kernel_rfl) cs ds e w h h'
  split at hk
  · rename_i ht
    obtain rfl := beq_iff_eq.1 ht
    cases hk
    exact eqok_struct' (n := 3) ut143 (by kernel_rfl) (by kernel_rfl) (by kernel_rfl) (by kernel_rfl) cs ds e w h h'
  simp at hk

theorem ttOk : TOk Go.Proofs.Try.prog ev.T := ttOf_ok Go.Proofs.Try.prog _ eqOk
theorem fsOk : FOk Go.Proofs.Try.prog fs := fnOf_ok Go.Proofs.Try.prog ws
theorem mixed : Go.Proofs.Try.prog.follows .mixedOrders = true := by kernel_rfl
theorem sound : CSound Go.Proofs.Try.prog ev.G (callS ev fs) := callS_sound (E := ev) (F := fs) ttOk fsOk mixed
theorem gok (W : World) : GOk ev.G { w := W, M := fun _ => False, E := [], H := [] } := fun g => .und _

section
variable {H : Type} {enc : TypeId × Value → H} {W : World}
theorem flatMap_one {α β : Type} (f : α → β) : ∀ (l : List α), l.flatMap (fun n => [f n]) = l.map f
  | [] => rfl
  | x :: l => by rw [List.flatMap_cons, flatMap_one f l]; rfl
theorem rd_int : Rd enc Go.Proofs.Try.prog W 3 (fun n : Int => [zI n]) (fun n => IntKind.min .i64 ≤ n ∧ n ≤ IntKind.max .i64) := Rd.int ut3
theorem rd_ints : Rd enc Go.Proofs.Try.prog W 22 (fun l => [zInts l]) (fun l => l.length ≤ maxLen ∧ ∀ n ∈ l, IntKind.min .i64 ≤ n ∧ n ≤ IntKind.max .i64) := Rd.slice ut22 c3 (by decide) rd_int (fun _ _ => by simp)
theorem rd_sec : Rd enc Go.Proofs.Try.prog W 52 secRow (fun s => ∀ b ∈ s.1, IntKind.min .u8 ≤ b ∧ b ≤ IntKind.max .u8) := by
  refine Rd.map (Rd.array ut52 c5 c52 (Rd.int ut5)) (fun l => if h : l.length = 8 then ⟨l, h⟩ else ⟨List.replicate 8 0, rfl⟩) (fun l h => ?_) (fun l h => ?_)
  · simp only [h.1, dif_pos]; exact h.2
  · simp only [h.1, dif_pos, secRow]
    exact (flatMap_one _ l).symm
theorem rd_vol : Rd enc Go.Proofs.Try.prog W 40 (fun v => [zVol v]) (fun v => v.length ≤ maxLen ∧ ∀ s ∈ v, ∀ b ∈ s.1, IntKind.min .u8 ≤ b ∧ b ≤ IntKind.max .u8) := Rd.slice ut40 c52 (by decide) rd_sec (fun s _ => by simp [go_sem])
def okImg (im : Img) : Prop := im.length ≤ maxLen ∧ ∀ v ∈ im, v.length ≤ maxLen ∧ ∀ s ∈ v, ∀ b ∈ s.1, IntKind.min .u8 ≤ b ∧ b ≤ IntKind.max .u8
theorem rd_img : Rd enc Go.Proofs.Try.prog W 24 (fun im => [zImg im]) okImg := Rd.slice ut24 c40 (by decide) rd_vol (fun _ _ => by simp)

theorem arg_ints : Arg1 enc Go.Proofs.Try.prog W 22 zInts (fun l => l.length ≤ maxLen ∧ ∀ n ∈ l, IntKind.min .i64 ≤ n ∧ n ≤ IntKind.max .i64) := Arg1.cell (.inr (.inr ⟨_, ut22⟩)) rd_ints
theorem arg_img : Arg1 enc Go.Proofs.Try.prog W 24 zImg okImg := Arg1.cell (.inr (.inr ⟨_, ut24⟩)) rd_img
end
end Go.Proofs.Ytlphdiccffnckaa
