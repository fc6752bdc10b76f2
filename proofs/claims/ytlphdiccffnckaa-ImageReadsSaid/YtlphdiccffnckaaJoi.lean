/- From the evaluator to the statements: what is evaluated is what the program does; arguments are read. -/
import Derived.Test.YtlphdiccffnckaaImd
import Derived.Test.YtlphdiccffnckaaEqk
import Derived.Test.YtlphdiccffnckaaRow
import Derived.Test.YtlphdiccffnckaaRows
namespace Go.Proofs.Ytlphdiccffnckaa
open Go Go.Abs Go.ChangeShapes Go.WideShapes Go.ChangeAt Go.RowKit

theorem Try.own : ownKnob Go.Proofs.Try.prog.godebug = none := by kernel_rfl
theorem Try.laidOut : laidOutB Go.Proofs.Try.prog = true := by kernel_rfl

theorem ut3 : Go.Proofs.Try.prog.underlying 3 = some (.int .i64) := by kernel_rfl
theorem ut4 : Go.Proofs.Try.prog.underlying 4 = some .bool := by kernel_rfl
theorem ut5 : Go.Proofs.Try.prog.underlying 5 = some (.int .u8) := by kernel_rfl
theorem ut22 : Go.Proofs.Try.prog.underlying 22 = some (.slice 3) := by kernel_rfl
theorem ut24 : Go.Proofs.Try.prog.underlying 24 = some (.slice 40) := by kernel_rfl
theorem ut40 : Go.Proofs.Try.prog.underlying 40 = some (.slice 52) := by kernel_rfl
theorem ut52 : Go.Proofs.Try.prog.underlying 52 = some (.array 8 5) := by kernel_rfl
theorem c3 : Go.Proofs.Try.prog.cellsOf 3 = 1 := by kernel_rfl
theorem c5 : Go.Proofs.Try.prog.cellsOf 5 = 1 := by kernel_rfl
theorem c40 : Go.Proofs.Try.prog.cellsOf 40 = 1 := by kernel_rfl
theorem c52 : Go.Proofs.Try.prog.cellsOf 52 = 8 := by kernel_rfl
def fieldsOfDesc : TypeDesc → Array Field
  | .struct fs => fs
  | _ => #[]
theorem ut59 : Go.Proofs.Try.prog.underlying 59 = some (.struct (fieldsOfDesc Go.Proofs.Try.t58.desc)) := by kernel_rfl
theorem ut143 : Go.Proofs.Try.prog.underlying 143 = some (.struct (fieldsOfDesc Go.Proofs.Try.t142.desc)) := by kernel_rfl
theorem eqOk : EqOk Go.Proofs.Try.prog [(52, [true, true, true, true, true, true, true, true]), (59, [true, true]), (143, [true, true, true])] := by
  intro t k hk cs ds e w h h'
  simp only [List.lookup_cons] at hk
  split at hk
  · rename_i ht
    obtain rfl := beq_iff_eq.1 ht
    cases hk
    have hi : ∃ i, Go.Proofs.Try.prog.info? 5 = some i := Option.isSome_iff_exists.1 (by kernel_rfl)
    obtain ⟨i, hi⟩ := hi
    exact eqok_array ut52 hi c5 ut5 (by kernel_rfl) cs ds e w h h'
  split at hk
  · rename_i ht
    obtain rfl := beq_iff_eq.1 ht
    cases hk
    exact eqok_struct' (n := 2) ut59 (by kernel_rfl) (by kernel_rfl) (by kernel_rfl) (by kernel_rfl) cs ds e w h h'
  split at hk
  · rename_i ht
    obtain rfl := beq_iff_eq.1 ht
    cases hk
    exact eqok_struct' (n := 3) ut143 (by kernel_rfl) (by kernel_rfl) (by kernel_rfl) (by kernel_rfl) cs ds e w h h'
  simp at hk

theorem ttOk : TOk Go.Proofs.Try.prog ev.T := ttOf_ok Go.Proofs.Try.prog _ eqOk
theorem fsOk : FOk Go.Proofs.Try.prog fs := fnOf_ok Go.Proofs.Try.prog ws
theorem mixed : Go.Proofs.Try.prog.follows .mixedOrders = true := by kernel_rfl
theorem sound : CSound Go.Proofs.Try.prog ev.G (callS ev fs) := callS_sound (E := ev) (F := fs) ttOk fsOk mixed
theorem gok (W : World) : GOk ev.G { w := W, M := fun _ => False, E := [], H := [] } := fun g => .und _

section
variable {H : Type} {enc : TypeId × Value → H} {W : World}
theorem flatMap_one {α β : Type} (f : α → β) : ∀ (l : List α), l.flatMap (fun n => [f n]) = l.map f
  | [] => rfl
  | x :: l => by rw [List.flatMap_cons, flatMap_one f l]; rfl
theorem rd_int : Rd enc Go.Proofs.Try.prog W 3 (fun n : Int => [zI n]) (fun n => IntKind.min .i64 ≤ n ∧ n ≤ IntKind.max .i64) := Rd.int ut3
theorem rd_ints : Rd enc Go.Proofs.Try.prog W 22 (fun l => [zInts l]) (fun l => l.length ≤ maxLen ∧ ∀ n ∈ l, IntKind.min .i64 ≤ n ∧ n ≤ IntKind.max .i64) := Rd.slice ut22 c3 (by decide) rd_int (fun _ _ => by simp)
theorem rd_sec : Rd enc Go.Proofs.Try.prog W 52 secRow (fun s => ∀ b ∈ s.1, IntKind.min .u8 ≤ b ∧ b ≤ IntKind.max .u8) := by
  refine Rd.map (Rd.array ut52 c5 c52 (Rd.int ut5)) (fun l => if h : l.length = 8 then ⟨l, h⟩ else ⟨List.replicate 8 0, rfl⟩) (fun l h => ?_) (fun l h => ?_)
  · simp only [h.1, dif_pos]; exact h.2
  · simp only [h.1, dif_pos, secRow]
    exact (flatMap_one _ l).symm
theorem rd_vol : Rd enc Go.Proofs.Try.prog W 40 (fun v => [zVol v]) (fun v => v.length ≤ maxLen ∧ ∀ s ∈ v, ∀ b ∈ s.1, IntKind.min .u8 ≤ b ∧ b ≤ IntKind.max .u8) := Rd.slice ut40 c52 (by decide) rd_sec (fun s _ => by simp [go_sem])
def okImg (im : Img) : Prop := im.length ≤ maxLen ∧ ∀ v ∈ im, v.length ≤ maxLen ∧ ∀ s ∈ v, ∀ b ∈ s.1, IntKind.min .u8 ≤ b ∧ b ≤ IntKind.max .u8
theorem rd_img : Rd enc Go.Proofs.Try.prog W 24 (fun im => [zImg im]) okImg := Rd.slice ut24 c40 (by decide) rd_vol (fun _ _ => by simp)

theorem cons' {P : Program} {f : Field} {fs : List Field} {off z n t' : Nat} (ht : f.type = t') (ho : f.offset = off) (hz : P.cellsOf t' = z) {A B : Type} {en : A → List AV} {good : A → Prop} {en' : B → List AV} {good' : B → Prop}
    (hf : Rd enc P W t' en good) (hr : RdF enc P W fs (off + z) en' good' n) : RdF enc P W (f :: fs) off (fun p : A × B => en p.1 ++ en' p.2) (fun p => good p.1 ∧ good' p.2) (z + n) := by
  subst ht
  exact RdF.cons ho hz hf hr
def fdOf (d : TypeDesc) (i : Nat) : Field := ((fieldsOfDesc d).toList)[i]?.getD { name := "", type := 0, offset := 0, embedded := false, tag := "", pkgPath := "", byteOffset := 0 }
theorem fl41 : (fieldsOfDesc Go.Proofs.Try.t41.desc).toList = [fdOf Go.Proofs.Try.t41.desc 0, fdOf Go.Proofs.Try.t41.desc 1, fdOf Go.Proofs.Try.t41.desc 2] := rfl
theorem fl58 : (fieldsOfDesc Go.Proofs.Try.t58.desc).toList = [fdOf Go.Proofs.Try.t58.desc 0, fdOf Go.Proofs.Try.t58.desc 1] := rfl
theorem ut38 : Go.Proofs.Try.prog.underlying 38 = some (.slice 42) := by kernel_rfl
theorem ut42 : Go.Proofs.Try.prog.underlying 42 = some (.struct (fieldsOfDesc Go.Proofs.Try.t41.desc)) := by kernel_rfl
theorem c42 : Go.Proofs.Try.prog.cellsOf 42 = 3 := by kernel_rfl
theorem c59 : Go.Proofs.Try.prog.cellsOf 59 = 2 := by kernel_rfl
def okWr (w : Wr) : Prop := (IntKind.min .i64 ≤ w.v ∧ w.v ≤ IntKind.max .i64) ∧ (IntKind.min .i64 ≤ w.s ∧ w.s ≤ IntKind.max .i64)
theorem rd_wr : Rd enc Go.Proofs.Try.prog W 42 wrRow okWr := by
  have h := cons' (enc := enc) (P := Go.Proofs.Try.prog) (W := W) (off := 0) (f := fdOf Go.Proofs.Try.t41.desc 0) (t' := 3) (z := 1) (n := 2) rfl rfl c3 rd_int (cons' (f := fdOf Go.Proofs.Try.t41.desc 1) (t' := 3) (z := 1) (n := 1) rfl rfl c3 rd_int (cons' (f := fdOf Go.Proofs.Try.t41.desc 2) (t' := 40) (z := 1) (n := 0) rfl rfl c40 rd_vol RdF.nil))
  rw [← fl41] at h
  exact Rd.map (Rd.struct ut42 c42 h) (fun p => (⟨p.1, p.2.1, p.2.2.1⟩ : Wr)) (fun p h => ⟨h.1, h.2.1⟩) (fun p h => rfl)
theorem rd_wrs : Rd enc Go.Proofs.Try.prog W 38 (fun l => [zWrs l]) (fun l => l.length ≤ maxLen ∧ ∀ w ∈ l, okWr w) := Rd.slice ut38 c42 (by decide) rd_wr (fun _ _ => by simp [wrRow])
theorem arg_wrs : Arg1 enc Go.Proofs.Try.prog W 38 zWrs (fun l => l.length ≤ maxLen ∧ ∀ w ∈ l, okWr w) := Arg1.cell (.inr (.inr ⟨_, ut38⟩)) rd_wrs
theorem arg_int : Arg1 enc Go.Proofs.Try.prog W 3 zI (fun n => IntKind.min .i64 ≤ n ∧ n ≤ IntKind.max .i64) := Arg1.cell (.inl ⟨_, ut3⟩) rd_int
@[go_sem] def zU8 (n : Int) : AV := .sc (.int .u8 n)
theorem arg_u8 : Arg1 enc Go.Proofs.Try.prog W 5 zU8 (fun n => IntKind.min .u8 ≤ n ∧ n ≤ IntKind.max .u8) := Arg1.cell (.inl ⟨_, ut5⟩) (Rd.int ut5)
def okExt (e : Ext) : Prop := (IntKind.min .i64 ≤ e.s ∧ e.s ≤ IntKind.max .i64) ∧ (IntKind.min .i64 ≤ e.n ∧ e.n ≤ IntKind.max .i64)
theorem rd_ext : Rd enc Go.Proofs.Try.prog W 59 extRow okExt := by
  have h := cons' (enc := enc) (P := Go.Proofs.Try.prog) (W := W) (off := 0) (f := fdOf Go.Proofs.Try.t58.desc 0) (t' := 3) (z := 1) (n := 1) rfl rfl c3 rd_int (cons' (f := fdOf Go.Proofs.Try.t58.desc 1) (t' := 3) (z := 1) (n := 0) rfl rfl c3 rd_int RdF.nil)
  rw [← fl58] at h
  exact Rd.map (Rd.struct ut59 c59 h) (fun p => (⟨p.1, p.2.1⟩ : Ext)) (fun p h => ⟨h.1, h.2.1⟩) (fun p h => rfl)
theorem arg_ext : Arg1 enc Go.Proofs.Try.prog W 59 zExt okExt := Arg1.agg (.inl ⟨_, ut59⟩) rd_ext
theorem arg_ints : Arg1 enc Go.Proofs.Try.prog W 22 zInts (fun l => l.length ≤ maxLen ∧ ∀ n ∈ l, IntKind.min .i64 ≤ n ∧ n ≤ IntKind.max .i64) := Arg1.cell (.inr (.inr ⟨_, ut22⟩)) rd_ints
theorem arg_img : Arg1 enc Go.Proofs.Try.prog W 24 zImg okImg := Arg1.cell (.inr (.inr ⟨_, ut24⟩)) rd_img
end
end Go.Proofs.Ytlphdiccffnckaa
