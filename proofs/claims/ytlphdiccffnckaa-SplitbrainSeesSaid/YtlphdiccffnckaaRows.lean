/-
  No cell of these rows narrows 'for every input' (looked for: loops, veiled, ifaces, maps, wideKeys, modest, calm, conditions, laid).
  DERIVED. THE GIVEN ROWS OF THIS SEAT. 16 by the template 'for every input the law returns true; each argument reads behind the call as it read before'; 0 by the template 'total and deterministic' (their statements: YtlphdiccffnckaaTotals.lean).
  GIVEN WITH THE SEED: the statements are not yours to turn. If you find one false, say at which input.
  Laid BY PROGRAM, IN A SANDBOX (cutbox-rows.mjs): the forced cells as the released guide's own fill.sh prints them over the translation 2bb17b112019f3ed… (all of the seat's roots in one cut). By AI agents, Wed Nov 11 2026. No macro, syntax, notation, axiom, sorry.
-/
import Derived.Test.YtlphdiccffnckaaChecked
import GoSem.Claim
import GoSem.ClaimJoined
import GoSem.ClaimMapViews
import Derived.JoinedTies
import Derived.KernelRfl
namespace Go.Proofs.Ytlphdiccffnckaa
/- THE CELL 'sum', in the pinned program and in every row, IS THE sha256 OF THE DUMP (.gsa) THAT YtlphdiccffnckaaProg.lean LOADS. Nothing in Lean hashes anything: it is a label: what it is worth is what the hold of that sum in a sandbox is worth. -/
noncomputable def Try.pinned : Pinned := { name := "ytlphdiccffnckaa", sum := "2bb17b112019f3edd58804bdf584f2af1ef408ee496483d3b4bab878aa123651", checked := Try.checked }
namespace Rows
def none {H : Type} : Left H := { results := [], args := [] }

/-- 'standbylaw07.ImageMakes': WHATEVER THE INPUT: true; the input reads as it did. -/
def imageMakesSpec : ChangeSpec := { name := "imageMakes", fn := fun _ => fun
  | [d1, d2] => { results := [.lit (.bool true)], args := [d1, d2] }
  | _ => none }
def imageMakesRow : OpenClaim := { program := "ytlphdiccffnckaa", sum := "2bb17b112019f3edd58804bdf584f2af1ef408ee496483d3b4bab878aa123651", func := "standby/standbylaw07.ImageMakes", spec := "imageMakes", unfollowed := true, recurses := true, apart := false }
def ImageMakesSaid : Prop := imageMakesRow.holds Try.pinned (OpenSpec.ofChange imageMakesSpec)

/-- ITS FALSE NEIGHBOUR: 'it returns false'. Refute it at one input. -/
def imageMakesWrong : ChangeSpec := { name := "imageMakes", fn := fun _ => fun
  | [d1, d2] => { results := [.lit (.bool false)], args := [d1, d2] }
  | _ => none }
def ImageMakesWrongFalsely : Prop := imageMakesRow.holds Try.pinned (OpenSpec.ofChange imageMakesWrong)

/-- 'standbylaw07.ImageApplies': WHATEVER THE INPUT: true; the input reads as it did. -/
def imageAppliesSpec : ChangeSpec := { name := "imageApplies", fn := fun _ => fun
  | [d1, d2] => { results := [.lit (.bool true)], args := [d1, d2] }
  | _ => none }
def imageAppliesRow : OpenClaim := { program := "ytlphdiccffnckaa", sum := "2bb17b112019f3edd58804bdf584f2af1ef408ee496483d3b4bab878aa123651", func := "standby/standbylaw07.ImageApplies", spec := "imageApplies", unfollowed := true, recurses := true, apart := false }
def ImageAppliesSaid : Prop := imageAppliesRow.holds Try.pinned (OpenSpec.ofChange imageAppliesSpec)

/-- ITS FALSE NEIGHBOUR: 'it returns false'. Refute it at one input. -/
def imageAppliesWrong : ChangeSpec := { name := "imageApplies", fn := fun _ => fun
  | [d1, d2] => { results := [.lit (.bool false)], args := [d1, d2] }
  | _ => none }
def ImageAppliesWrongFalsely : Prop := imageAppliesRow.holds Try.pinned (OpenSpec.ofChange imageAppliesWrong)

/-- 'standbylaw07.ImageLast': WHATEVER THE INPUT: true; the input reads as it did. -/
def imageLastSpec : ChangeSpec := { name := "imageLast", fn := fun _ => fun
  | [d1, d2] => { results := [.lit (.bool true)], args := [d1, d2] }
  | _ => none }
def imageLastRow : OpenClaim := { program := "ytlphdiccffnckaa", sum := "2bb17b112019f3edd58804bdf584f2af1ef408ee496483d3b4bab878aa123651", func := "standby/standbylaw07.ImageLast", spec := "imageLast", unfollowed := true, recurses := true, apart := false }
def ImageLastSaid : Prop := imageLastRow.holds Try.pinned (OpenSpec.ofChange imageLastSpec)

/-- ITS FALSE NEIGHBOUR: 'it returns false'. Refute it at one input. -/
def imageLastWrong : ChangeSpec := { name := "imageLast", fn := fun _ => fun
  | [d1, d2] => { results := [.lit (.bool false)], args := [d1, d2] }
  | _ => none }
def ImageLastWrongFalsely : Prop := imageLastRow.holds Try.pinned (OpenSpec.ofChange imageLastWrong)

/-- 'standbylaw07.ImageSteps': WHATEVER THE INPUT: true; the input reads as it did. -/
def imageStepsSpec : ChangeSpec := { name := "imageSteps", fn := fun _ => fun
  | [d1, d2, d3] => { results := [.lit (.bool true)], args := [d1, d2, d3] }
  | _ => none }
def imageStepsRow : OpenClaim := { program := "ytlphdiccffnckaa", sum := "2bb17b112019f3edd58804bdf584f2af1ef408ee496483d3b4bab878aa123651", func := "standby/standbylaw07.ImageSteps", spec := "imageSteps", unfollowed := true, recurses := true, apart := false }
def ImageStepsSaid : Prop := imageStepsRow.holds Try.pinned (OpenSpec.ofChange imageStepsSpec)

/-- ITS FALSE NEIGHBOUR: 'it returns false'. Refute it at one input. -/
def imageStepsWrong : ChangeSpec := { name := "imageSteps", fn := fun _ => fun
  | [d1, d2, d3] => { results := [.lit (.bool false)], args := [d1, d2, d3] }
  | _ => none }
def ImageStepsWrongFalsely : Prop := imageStepsRow.holds Try.pinned (OpenSpec.ofChange imageStepsWrong)

/-- 'standbylaw07.ImageReads': WHATEVER THE INPUT: true; the input reads as it did. -/
def imageReadsSpec : ChangeSpec := { name := "imageReads", fn := fun _ => fun
  | [d1, d2, d3] => { results := [.lit (.bool true)], args := [d1, d2, d3] }
  | _ => none }
def imageReadsRow : OpenClaim := { program := "ytlphdiccffnckaa", sum := "2bb17b112019f3edd58804bdf584f2af1ef408ee496483d3b4bab878aa123651", func := "standby/standbylaw07.ImageReads", spec := "imageReads", unfollowed := true, recurses := true, apart := false }
def ImageReadsSaid : Prop := imageReadsRow.holds Try.pinned (OpenSpec.ofChange imageReadsSpec)

/-- ITS FALSE NEIGHBOUR: 'it returns false'. Refute it at one input. -/
def imageReadsWrong : ChangeSpec := { name := "imageReads", fn := fun _ => fun
  | [d1, d2, d3] => { results := [.lit (.bool false)], args := [d1, d2, d3] }
  | _ => none }
def ImageReadsWrongFalsely : Prop := imageReadsRow.holds Try.pinned (OpenSpec.ofChange imageReadsWrong)

/-- 'standbylaw07.ImageDiffers': WHATEVER THE INPUT: true; the input reads as it did. -/
def imageDiffersSpec : ChangeSpec := { name := "imageDiffers", fn := fun _ => fun
  | [d1, d2] => { results := [.lit (.bool true)], args := [d1, d2] }
  | _ => none }
def imageDiffersRow : OpenClaim := { program := "ytlphdiccffnckaa", sum := "2bb17b112019f3edd58804bdf584f2af1ef408ee496483d3b4bab878aa123651", func := "standby/standbylaw07.ImageDiffers", spec := "imageDiffers", unfollowed := true, recurses := true, apart := false }
def ImageDiffersSaid : Prop := imageDiffersRow.holds Try.pinned (OpenSpec.ofChange imageDiffersSpec)

/-- ITS FALSE NEIGHBOUR: 'it returns false'. Refute it at one input. -/
def imageDiffersWrong : ChangeSpec := { name := "imageDiffers", fn := fun _ => fun
  | [d1, d2] => { results := [.lit (.bool false)], args := [d1, d2] }
  | _ => none }
def ImageDiffersWrongFalsely : Prop := imageDiffersRow.holds Try.pinned (OpenSpec.ofChange imageDiffersWrong)

/-- 'standbytop.TopSwitchoverKeeps': WHATEVER THE INPUT: true; the input reads as it did. -/
def topSwitchoverKeepsSpec : ChangeSpec := { name := "topSwitchoverKeeps", fn := fun _ => fun
  | [d1, d2] => { results := [.lit (.bool true)], args := [d1, d2] }
  | _ => none }
def topSwitchoverKeepsRow : OpenClaim := { program := "ytlphdiccffnckaa", sum := "2bb17b112019f3edd58804bdf584f2af1ef408ee496483d3b4bab878aa123651", func := "standby/standbytop.TopSwitchoverKeeps", spec := "topSwitchoverKeeps", unfollowed := true, recurses := true, apart := false }
def TopSwitchoverKeepsSaid : Prop := topSwitchoverKeepsRow.holds Try.pinned (OpenSpec.ofChange topSwitchoverKeepsSpec)

/-- ITS FALSE NEIGHBOUR: 'it returns false'. Refute it at one input. -/
def topSwitchoverKeepsWrong : ChangeSpec := { name := "topSwitchoverKeeps", fn := fun _ => fun
  | [d1, d2] => { results := [.lit (.bool false)], args := [d1, d2] }
  | _ => none }
def TopSwitchoverKeepsWrongFalsely : Prop := topSwitchoverKeepsRow.holds Try.pinned (OpenSpec.ofChange topSwitchoverKeepsWrong)

/-- 'standbylaw07.ImagePatches': WHATEVER THE INPUT: true; the input reads as it did. -/
def imagePatchesSpec : ChangeSpec := { name := "imagePatches", fn := fun _ => fun
  | [d1, d2] => { results := [.lit (.bool true)], args := [d1, d2] }
  | _ => none }
def imagePatchesRow : OpenClaim := { program := "ytlphdiccffnckaa", sum := "2bb17b112019f3edd58804bdf584f2af1ef408ee496483d3b4bab878aa123651", func := "standby/standbylaw07.ImagePatches", spec := "imagePatches", unfollowed := true, recurses := true, apart := false }
def ImagePatchesSaid : Prop := imagePatchesRow.holds Try.pinned (OpenSpec.ofChange imagePatchesSpec)

/-- ITS FALSE NEIGHBOUR: 'it returns false'. Refute it at one input. -/
def imagePatchesWrong : ChangeSpec := { name := "imagePatches", fn := fun _ => fun
  | [d1, d2] => { results := [.lit (.bool false)], args := [d1, d2] }
  | _ => none }
def ImagePatchesWrongFalsely : Prop := imagePatchesRow.holds Try.pinned (OpenSpec.ofChange imagePatchesWrong)

/-- 'standbylaw07.ImageDigests': WHATEVER THE INPUT: true; the input reads as it did. -/
def imageDigestsSpec : ChangeSpec := { name := "imageDigests", fn := fun _ => fun
  | [d] => { results := [.lit (.bool true)], args := [d] }
  | _ => none }
def imageDigestsRow : OpenClaim := { program := "ytlphdiccffnckaa", sum := "2bb17b112019f3edd58804bdf584f2af1ef408ee496483d3b4bab878aa123651", func := "standby/standbylaw07.ImageDigests", spec := "imageDigests", unfollowed := true, recurses := true, apart := false }
def ImageDigestsSaid : Prop := imageDigestsRow.holds Try.pinned (OpenSpec.ofChange imageDigestsSpec)

/-- ITS FALSE NEIGHBOUR: 'it returns false'. Refute it at one input. -/
def imageDigestsWrong : ChangeSpec := { name := "imageDigests", fn := fun _ => fun
  | [d] => { results := [.lit (.bool false)], args := [d] }
  | _ => none }
def ImageDigestsWrongFalsely : Prop := imageDigestsRow.holds Try.pinned (OpenSpec.ofChange imageDigestsWrong)

/-- 'standbytop.TopFailoverChooses': WHATEVER THE INPUT: true; the input reads as it did. -/
def topFailoverChoosesSpec : ChangeSpec := { name := "topFailoverChooses", fn := fun _ => fun
  | [d1, d2] => { results := [.lit (.bool true)], args := [d1, d2] }
  | _ => none }
def topFailoverChoosesRow : OpenClaim := { program := "ytlphdiccffnckaa", sum := "2bb17b112019f3edd58804bdf584f2af1ef408ee496483d3b4bab878aa123651", func := "standby/standbytop.TopFailoverChooses", spec := "topFailoverChooses", unfollowed := true, recurses := true, apart := false }
def TopFailoverChoosesSaid : Prop := topFailoverChoosesRow.holds Try.pinned (OpenSpec.ofChange topFailoverChoosesSpec)

/-- ITS FALSE NEIGHBOUR: 'it returns false'. Refute it at one input. -/
def topFailoverChoosesWrong : ChangeSpec := { name := "topFailoverChooses", fn := fun _ => fun
  | [d1, d2] => { results := [.lit (.bool false)], args := [d1, d2] }
  | _ => none }
def TopFailoverChoosesWrongFalsely : Prop := topFailoverChoosesRow.holds Try.pinned (OpenSpec.ofChange topFailoverChoosesWrong)

/-- 'standbylaw54.SplitbrainForks': WHATEVER THE INPUT: true; the input reads as it did. -/
def splitbrainForksSpec : ChangeSpec := { name := "splitbrainForks", fn := fun _ => fun
  | [d1, d2] => { results := [.lit (.bool true)], args := [d1, d2] }
  | _ => none }
def splitbrainForksRow : OpenClaim := { program := "ytlphdiccffnckaa", sum := "2bb17b112019f3edd58804bdf584f2af1ef408ee496483d3b4bab878aa123651", func := "standby/standbylaw54.SplitbrainForks", spec := "splitbrainForks", unfollowed := true, recurses := true, apart := false }
def SplitbrainForksSaid : Prop := splitbrainForksRow.holds Try.pinned (OpenSpec.ofChange splitbrainForksSpec)

/-- ITS FALSE NEIGHBOUR: 'it returns false'. Refute it at one input. -/
def splitbrainForksWrong : ChangeSpec := { name := "splitbrainForks", fn := fun _ => fun
  | [d1, d2] => { results := [.lit (.bool false)], args := [d1, d2] }
  | _ => none }
def SplitbrainForksWrongFalsely : Prop := splitbrainForksRow.holds Try.pinned (OpenSpec.ofChange splitbrainForksWrong)

/-- 'standbylaw54.SplitbrainFinds': WHATEVER THE INPUT: true; the input reads as it did. -/
def splitbrainFindsSpec : ChangeSpec := { name := "splitbrainFinds", fn := fun _ => fun
  | [d1, d2] => { results := [.lit (.bool true)], args := [d1, d2] }
  | _ => none }
def splitbrainFindsRow : OpenClaim := { program := "ytlphdiccffnckaa", sum := "2bb17b112019f3edd58804bdf584f2af1ef408ee496483d3b4bab878aa123651", func := "standby/standbylaw54.SplitbrainFinds", spec := "splitbrainFinds", unfollowed := true, recurses := true, apart := false }
def SplitbrainFindsSaid : Prop := splitbrainFindsRow.holds Try.pinned (OpenSpec.ofChange splitbrainFindsSpec)

/-- ITS FALSE NEIGHBOUR: 'it returns false'. Refute it at one input. -/
def splitbrainFindsWrong : ChangeSpec := { name := "splitbrainFinds", fn := fun _ => fun
  | [d1, d2] => { results := [.lit (.bool false)], args := [d1, d2] }
  | _ => none }
def SplitbrainFindsWrongFalsely : Prop := splitbrainFindsRow.holds Try.pinned (OpenSpec.ofChange splitbrainFindsWrong)

/-- 'standbylaw54.SplitbrainMerges': WHATEVER THE INPUT: true; the input reads as it did. -/
def splitbrainMergesSpec : ChangeSpec := { name := "splitbrainMerges", fn := fun _ => fun
  | [d1, d2, d3] => { results := [.lit (.bool true)], args := [d1, d2, d3] }
  | _ => none }
def splitbrainMergesRow : OpenClaim := { program := "ytlphdiccffnckaa", sum := "2bb17b112019f3edd58804bdf584f2af1ef408ee496483d3b4bab878aa123651", func := "standby/standbylaw54.SplitbrainMerges", spec := "splitbrainMerges", unfollowed := true, recurses := true, apart := false }
def SplitbrainMergesSaid : Prop := splitbrainMergesRow.holds Try.pinned (OpenSpec.ofChange splitbrainMergesSpec)

/-- ITS FALSE NEIGHBOUR: 'it returns false'. Refute it at one input. -/
def splitbrainMergesWrong : ChangeSpec := { name := "splitbrainMerges", fn := fun _ => fun
  | [d1, d2, d3] => { results := [.lit (.bool false)], args := [d1, d2, d3] }
  | _ => none }
def SplitbrainMergesWrongFalsely : Prop := splitbrainMergesRow.holds Try.pinned (OpenSpec.ofChange splitbrainMergesWrong)

/-- 'standbylaw54.SplitbrainSettles': WHATEVER THE INPUT: true; the input reads as it did. -/
def splitbrainSettlesSpec : ChangeSpec := { name := "splitbrainSettles", fn := fun _ => fun
  | [d1, d2] => { results := [.lit (.bool true)], args := [d1, d2] }
  | _ => none }
def splitbrainSettlesRow : OpenClaim := { program := "ytlphdiccffnckaa", sum := "2bb17b112019f3edd58804bdf584f2af1ef408ee496483d3b4bab878aa123651", func := "standby/standbylaw54.SplitbrainSettles", spec := "splitbrainSettles", unfollowed := true, recurses := true, apart := false }
def SplitbrainSettlesSaid : Prop := splitbrainSettlesRow.holds Try.pinned (OpenSpec.ofChange splitbrainSettlesSpec)

/-- ITS FALSE NEIGHBOUR: 'it returns false'. Refute it at one input. -/
def splitbrainSettlesWrong : ChangeSpec := { name := "splitbrainSettles", fn := fun _ => fun
  | [d1, d2] => { results := [.lit (.bool false)], args := [d1, d2] }
  | _ => none }
def SplitbrainSettlesWrongFalsely : Prop := splitbrainSettlesRow.holds Try.pinned (OpenSpec.ofChange splitbrainSettlesWrong)

/-- 'standbylaw54.SplitbrainCombines': WHATEVER THE INPUT: true; the input reads as it did. -/
def splitbrainCombinesSpec : ChangeSpec := { name := "splitbrainCombines", fn := fun _ => fun
  | [d1, d2] => { results := [.lit (.bool true)], args := [d1, d2] }
  | _ => none }
def splitbrainCombinesRow : OpenClaim := { program := "ytlphdiccffnckaa", sum := "2bb17b112019f3edd58804bdf584f2af1ef408ee496483d3b4bab878aa123651", func := "standby/standbylaw54.SplitbrainCombines", spec := "splitbrainCombines", unfollowed := true, recurses := true, apart := false }
def SplitbrainCombinesSaid : Prop := splitbrainCombinesRow.holds Try.pinned (OpenSpec.ofChange splitbrainCombinesSpec)

/-- ITS FALSE NEIGHBOUR: 'it returns false'. Refute it at one input. -/
def splitbrainCombinesWrong : ChangeSpec := { name := "splitbrainCombines", fn := fun _ => fun
  | [d1, d2] => { results := [.lit (.bool false)], args := [d1, d2] }
  | _ => none }
def SplitbrainCombinesWrongFalsely : Prop := splitbrainCombinesRow.holds Try.pinned (OpenSpec.ofChange splitbrainCombinesWrong)

/-- 'standbylaw54.SplitbrainSees': WHATEVER THE INPUT: true; the input reads as it did. -/
def splitbrainSeesSpec : ChangeSpec := { name := "splitbrainSees", fn := fun _ => fun
  | [d1, d2, d3] => { results := [.lit (.bool true)], args := [d1, d2, d3] }
  | _ => none }
def splitbrainSeesRow : OpenClaim := { program := "ytlphdiccffnckaa", sum := "2bb17b112019f3edd58804bdf584f2af1ef408ee496483d3b4bab878aa123651", func := "standby/standbylaw54.SplitbrainSees", spec := "splitbrainSees", unfollowed := true, recurses := true, apart := false }
def SplitbrainSeesSaid : Prop := splitbrainSeesRow.holds Try.pinned (OpenSpec.ofChange splitbrainSeesSpec)

/-- ITS FALSE NEIGHBOUR: 'it returns false'. Refute it at one input. -/
def splitbrainSeesWrong : ChangeSpec := { name := "splitbrainSees", fn := fun _ => fun
  | [d1, d2, d3] => { results := [.lit (.bool false)], args := [d1, d2, d3] }
  | _ => none }
def SplitbrainSeesWrongFalsely : Prop := splitbrainSeesRow.holds Try.pinned (OpenSpec.ofChange splitbrainSeesWrong)

/- THE SECOND FORM. 'bulk': how many values and letters a reading holds, each counted each time it is reached (what is shared counts as often as it is met; a slice's spare places count too). A statement '..UptoSaid' is the law's where the arguments, and the package variables that the reading takes, are together of bulk at most 1048576: NARROWER than '..Said'. Prove '..Said' where nothing that the law and all that it calls make is longer than what came in: it says more and counts as full. Else prove '..UptoSaid'. A law counts once. -/
mutual
def uptoBulk {H : Type} : DataW H → Nat
  | .lit (.string bytes) => bytes.length + 1
  | .lit _ => 1
  | .nil => 1
  | .ptr d => uptoBulk d + 1
  | .slice elems spare => uptoBulkAll elems + uptoBulkAll spare + 1
  | .agg parts => uptoBulkAll parts + 1
  | .iface _ d => uptoBulk d + 1
  | .map entries => uptoBulkEntries entries + 1
  | .held _ => 1
def uptoBulkAll {H : Type} : List (DataW H) → Nat
  | [] => 0
  | d :: r => uptoBulk d + uptoBulkAll r
def uptoBulkEntries {H : Type} : List (Lit × DataW H) → Nat
  | [] => 0
  | x :: r => uptoBulkEntry x + uptoBulkEntries r
def uptoBulkEntry {H : Type} : Lit × DataW H → Nat
  | (.string bytes, d) => bytes.length + uptoBulk d + 1
  | (_, d) => uptoBulk d + 1
 end
def uptoSmall : (H : Type) → List (DataW H) → Bool := fun _ ds => decide (uptoBulkAll ds ≤ 1048576)
def OpenSpec.upto (s : _root_.Go.ChangeSpec) : _root_.Go.OpenSpec := { _root_.Go.OpenSpec.ofChange s with cond := some uptoSmall }

/-- 'standbylaw07.ImageMakes', WHERE WHAT IT READS IS OF BULK AT MOST 1048576: true; the input reads as it did. -/
def imageMakesUptoRow : OpenClaim := { program := "ytlphdiccffnckaa", sum := "2bb17b112019f3edd58804bdf584f2af1ef408ee496483d3b4bab878aa123651", func := "standby/standbylaw07.ImageMakes", spec := "imageMakes", unfollowed := true, recurses := true, apart := false, narrowed := true }
def ImageMakesUptoSaid : Prop := imageMakesUptoRow.holds Try.pinned (OpenSpec.upto imageMakesSpec)

/-- 'standbylaw07.ImageApplies', WHERE WHAT IT READS IS OF BULK AT MOST 1048576: true; the input reads as it did. -/
def imageAppliesUptoRow : OpenClaim := { program := "ytlphdiccffnckaa", sum := "2bb17b112019f3edd58804bdf584f2af1ef408ee496483d3b4bab878aa123651", func := "standby/standbylaw07.ImageApplies", spec := "imageApplies", unfollowed := true, recurses := true, apart := false, narrowed := true }
def ImageAppliesUptoSaid : Prop := imageAppliesUptoRow.holds Try.pinned (OpenSpec.upto imageAppliesSpec)

/-- 'standbylaw07.ImageLast', WHERE WHAT IT READS IS OF BULK AT MOST 1048576: true; the input reads as it did. -/
def imageLastUptoRow : OpenClaim := { program := "ytlphdiccffnckaa", sum := "2bb17b112019f3edd58804bdf584f2af1ef408ee496483d3b4bab878aa123651", func := "standby/standbylaw07.ImageLast", spec := "imageLast", unfollowed := true, recurses := true, apart := false, narrowed := true }
def ImageLastUptoSaid : Prop := imageLastUptoRow.holds Try.pinned (OpenSpec.upto imageLastSpec)

/-- 'standbylaw07.ImageSteps', WHERE WHAT IT READS IS OF BULK AT MOST 1048576: true; the input reads as it did. -/
def imageStepsUptoRow : OpenClaim := { program := "ytlphdiccffnckaa", sum := "2bb17b112019f3edd58804bdf584f2af1ef408ee496483d3b4bab878aa123651", func := "standby/standbylaw07.ImageSteps", spec := "imageSteps", unfollowed := true, recurses := true, apart := false, narrowed := true }
def ImageStepsUptoSaid : Prop := imageStepsUptoRow.holds Try.pinned (OpenSpec.upto imageStepsSpec)

/-- 'standbylaw07.ImageReads', WHERE WHAT IT READS IS OF BULK AT MOST 1048576: true; the input reads as it did. -/
def imageReadsUptoRow : OpenClaim := { program := "ytlphdiccffnckaa", sum := "2bb17b112019f3edd58804bdf584f2af1ef408ee496483d3b4bab878aa123651", func := "standby/standbylaw07.ImageReads", spec := "imageReads", unfollowed := true, recurses := true, apart := false, narrowed := true }
def ImageReadsUptoSaid : Prop := imageReadsUptoRow.holds Try.pinned (OpenSpec.upto imageReadsSpec)

/-- 'standbylaw07.ImageDiffers', WHERE WHAT IT READS IS OF BULK AT MOST 1048576: true; the input reads as it did. -/
def imageDiffersUptoRow : OpenClaim := { program := "ytlphdiccffnckaa", sum := "2bb17b112019f3edd58804bdf584f2af1ef408ee496483d3b4bab878aa123651", func := "standby/standbylaw07.ImageDiffers", spec := "imageDiffers", unfollowed := true, recurses := true, apart := false, narrowed := true }
def ImageDiffersUptoSaid : Prop := imageDiffersUptoRow.holds Try.pinned (OpenSpec.upto imageDiffersSpec)

/-- 'standbytop.TopSwitchoverKeeps', WHERE WHAT IT READS IS OF BULK AT MOST 1048576: true; the input reads as it did. -/
def topSwitchoverKeepsUptoRow : OpenClaim := { program := "ytlphdiccffnckaa", sum := "2bb17b112019f3edd58804bdf584f2af1ef408ee496483d3b4bab878aa123651", func := "standby/standbytop.TopSwitchoverKeeps", spec := "topSwitchoverKeeps", unfollowed := true, recurses := true, apart := false, narrowed := true }
def TopSwitchoverKeepsUptoSaid : Prop := topSwitchoverKeepsUptoRow.holds Try.pinned (OpenSpec.upto topSwitchoverKeepsSpec)

/-- 'standbylaw07.ImagePatches', WHERE WHAT IT READS IS OF BULK AT MOST 1048576: true; the input reads as it did. -/
def imagePatchesUptoRow : OpenClaim := { program := "ytlphdiccffnckaa", sum := "2bb17b112019f3edd58804bdf584f2af1ef408ee496483d3b4bab878aa123651", func := "standby/standbylaw07.ImagePatches", spec := "imagePatches", unfollowed := true, recurses := true, apart := false, narrowed := true }
def ImagePatchesUptoSaid : Prop := imagePatchesUptoRow.holds Try.pinned (OpenSpec.upto imagePatchesSpec)

/-- 'standbylaw07.ImageDigests', WHERE WHAT IT READS IS OF BULK AT MOST 1048576: true; the input reads as it did. -/
def imageDigestsUptoRow : OpenClaim := { program := "ytlphdiccffnckaa", sum := "2bb17b112019f3edd58804bdf584f2af1ef408ee496483d3b4bab878aa123651", func := "standby/standbylaw07.ImageDigests", spec := "imageDigests", unfollowed := true, recurses := true, apart := false, narrowed := true }
def ImageDigestsUptoSaid : Prop := imageDigestsUptoRow.holds Try.pinned (OpenSpec.upto imageDigestsSpec)

/-- 'standbytop.TopFailoverChooses', WHERE WHAT IT READS IS OF BULK AT MOST 1048576: true; the input reads as it did. -/
def topFailoverChoosesUptoRow : OpenClaim := { program := "ytlphdiccffnckaa", sum := "2bb17b112019f3edd58804bdf584f2af1ef408ee496483d3b4bab878aa123651", func := "standby/standbytop.TopFailoverChooses", spec := "topFailoverChooses", unfollowed := true, recurses := true, apart := false, narrowed := true }
def TopFailoverChoosesUptoSaid : Prop := topFailoverChoosesUptoRow.holds Try.pinned (OpenSpec.upto topFailoverChoosesSpec)

/-- 'standbylaw54.SplitbrainForks', WHERE WHAT IT READS IS OF BULK AT MOST 1048576: true; the input reads as it did. -/
def splitbrainForksUptoRow : OpenClaim := { program := "ytlphdiccffnckaa", sum := "2bb17b112019f3edd58804bdf584f2af1ef408ee496483d3b4bab878aa123651", func := "standby/standbylaw54.SplitbrainForks", spec := "splitbrainForks", unfollowed := true, recurses := true, apart := false, narrowed := true }
def SplitbrainForksUptoSaid : Prop := splitbrainForksUptoRow.holds Try.pinned (OpenSpec.upto splitbrainForksSpec)

/-- 'standbylaw54.SplitbrainFinds', WHERE WHAT IT READS IS OF BULK AT MOST 1048576: true; the input reads as it did. -/
def splitbrainFindsUptoRow : OpenClaim := { program := "ytlphdiccffnckaa", sum := "2bb17b112019f3edd58804bdf584f2af1ef408ee496483d3b4bab878aa123651", func := "standby/standbylaw54.SplitbrainFinds", spec := "splitbrainFinds", unfollowed := true, recurses := true, apart := false, narrowed := true }
def SplitbrainFindsUptoSaid : Prop := splitbrainFindsUptoRow.holds Try.pinned (OpenSpec.upto splitbrainFindsSpec)

/-- 'standbylaw54.SplitbrainMerges', WHERE WHAT IT READS IS OF BULK AT MOST 1048576: true; the input reads as it did. -/
def splitbrainMergesUptoRow : OpenClaim := { program := "ytlphdiccffnckaa", sum := "2bb17b112019f3edd58804bdf584f2af1ef408ee496483d3b4bab878aa123651", func := "standby/standbylaw54.SplitbrainMerges", spec := "splitbrainMerges", unfollowed := true, recurses := true, apart := false, narrowed := true }
def SplitbrainMergesUptoSaid : Prop := splitbrainMergesUptoRow.holds Try.pinned (OpenSpec.upto splitbrainMergesSpec)

/-- 'standbylaw54.SplitbrainSettles', WHERE WHAT IT READS IS OF BULK AT MOST 1048576: true; the input reads as it did. -/
def splitbrainSettlesUptoRow : OpenClaim := { program := "ytlphdiccffnckaa", sum := "2bb17b112019f3edd58804bdf584f2af1ef408ee496483d3b4bab878aa123651", func := "standby/standbylaw54.SplitbrainSettles", spec := "splitbrainSettles", unfollowed := true, recurses := true, apart := false, narrowed := true }
def SplitbrainSettlesUptoSaid : Prop := splitbrainSettlesUptoRow.holds Try.pinned (OpenSpec.upto splitbrainSettlesSpec)

/-- 'standbylaw54.SplitbrainCombines', WHERE WHAT IT READS IS OF BULK AT MOST 1048576: true; the input reads as it did. -/
def splitbrainCombinesUptoRow : OpenClaim := { program := "ytlphdiccffnckaa", sum := "2bb17b112019f3edd58804bdf584f2af1ef408ee496483d3b4bab878aa123651", func := "standby/standbylaw54.SplitbrainCombines", spec := "splitbrainCombines", unfollowed := true, recurses := true, apart := false, narrowed := true }
def SplitbrainCombinesUptoSaid : Prop := splitbrainCombinesUptoRow.holds Try.pinned (OpenSpec.upto splitbrainCombinesSpec)

/-- 'standbylaw54.SplitbrainSees', WHERE WHAT IT READS IS OF BULK AT MOST 1048576: true; the input reads as it did. -/
def splitbrainSeesUptoRow : OpenClaim := { program := "ytlphdiccffnckaa", sum := "2bb17b112019f3edd58804bdf584f2af1ef408ee496483d3b4bab878aa123651", func := "standby/standbylaw54.SplitbrainSees", spec := "splitbrainSees", unfollowed := true, recurses := true, apart := false, narrowed := true }
def SplitbrainSeesUptoSaid : Prop := splitbrainSeesUptoRow.holds Try.pinned (OpenSpec.upto splitbrainSeesSpec)

end Rows
end Go.Proofs.Ytlphdiccffnckaa
