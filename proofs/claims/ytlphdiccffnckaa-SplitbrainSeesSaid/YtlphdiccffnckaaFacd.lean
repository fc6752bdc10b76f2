/- Facts of the program, joined. -/
import Derived.Test.YtlphdiccffnckaaFaca
import Derived.Test.YtlphdiccffnckaaFacb
import Derived.Test.YtlphdiccffnckaaFacc
namespace Go.Proofs.Ytlphdiccffnckaa
open Go Go.ChangeShapes Go.WideShapes Go.ChangeAt Go.RowKit
set_option maxRecDepth 100000
theorem facLaid : laidOutB Go.Proofs.Try.prog = true := by kernel_rfl
theorem facMaps : mapsRowed Go.Proofs.Try.prog = true := by kernel_rfl
theorem facStops : (Go.Proofs.Try.prog.stops == []) = true := by kernel_rfl
theorem facKnobs : (Go.Proofs.Try.prog.stopKnobs == []) = true := by kernel_rfl
theorem facHeard : Go.Proofs.Try.prog.stopsHeard = true := by kernel_rfl
theorem facPlain : (Rows.imageMakesRow.plainKeys == Go.Proofs.Try.prog.plainKeys) = true := by kernel_rfl

/-- What is asked of one row, beside the program's facts. -/
def rowFacts (P : Program) (f : FuncId) (fn : Func) (s : ChangeSpec) (c : OpenClaim) : Bool :=
  c.wf (OpenSpec.ofChange s) && fn.params.all (P.readableRec ·) && namedTie P c.named s.vars && (c.stops == []) && (c.knobs == []) &&
  (c.inPlace == P.inPlace f) && (c.unfollowed == P.unfollowed f) && (c.recurses == P.recurses f) && (c.named == P.varsNamed f) &&
  (c.maps == (fn.params.toList ++ s.plain.varTypes P).any (P.mapsRec ·)) && (c.ifaces == (fn.params.toList ++ s.plain.varTypes P).any (P.ifacesRec ·)) && (c.mapsOut == P.mapsAmong fn.resultTypes.toList) &&
  (c.loops == (fn.params.toList ++ s.plain.varTypes P).any (P.loopsFrom ·)) && (c.wideKeys == (fn.params.toList ++ s.plain.varTypes P ++ fn.resultTypes.toList).any (P.wideKeysFrom ·)) &&
  s.vars.all (P.varReadable ·) && fn.resultTypes.all (fun t => P.readableRec t && decide (t < P.types.size)) && (c.ifacesOut == fn.resultTypes.toList.any (P.ifacesRec ·)) && (c.loopsOut == fn.resultTypes.toList.any (P.loopsFrom ·)) && c.shortTexts.isNone && (c.kinds == (if c.domain.isEmpty then [] else fn.params.toList.map fun t => match P.underlying t with | some (.int k) => some k | _ => none)) && (c.pinned == c.pinnedBy) &&
  (c.veiled == (fn.params.toList ++ s.plain.varTypes P ++ fn.resultTypes.toList).any (P.veiledRec ·)) && c.veiledFits P fn.params.toList (fn.params.toList ++ s.plain.varTypes P ++ fn.resultTypes.toList)

theorem joined_of {P : Program} {f : FuncId} {fn : Func} {s : ChangeSpec} {c : OpenClaim} (h1 : laidOutB P = true) (h2 : mapsRowed P = true) (h3 : (P.stops == []) = true) (h4 : (P.stopKnobs == []) = true) (h5 : P.stopsHeard = true) (h6 : P.mayEnter = true)
    (h7 : (c.lifted == P.liftsFinal) = true) (h8 : (P.make == some c.make) = true) (h9 : (c.plainKeys == P.plainKeys) = true) (h : rowFacts P f fn s c = true) : joinedFacts P f fn s c = true := by
  unfold joinedFacts
  simp only [rowFacts, Bool.and_eq_true] at h
  simp only [h1, h2, h3, h4, h5, h6, h7, h8, h9, h, Bool.and_self, Bool.and_true, Bool.true_and]
  exact h.1.1.1.2
end Go.Proofs.Ytlphdiccffnckaa
