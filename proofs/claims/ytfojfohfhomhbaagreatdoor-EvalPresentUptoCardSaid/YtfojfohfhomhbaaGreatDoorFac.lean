/- Closed facts of EvalPresent's row, by the kernel. -/
import Derived.Test.YtfojfohfhomhbaaGreatDoorRows
import Derived.JoinedOf
namespace Go.Proofs.YtfojfohfhomhbaaGreatDoor
open Go
set_option maxRecDepth 100000
theorem fact1 : (Rows.evalPresentUptoRow.wf (OpenSpec.ofChange (Rows.OpenSpec.upto Rows.evalPresentSpec).bare)) = true := by kernel_rfl
theorem fact2 : (laidOutB Tryz.pinned.checked.prog) = true := by kernel_rfl
theorem fact3 : (mapsRowed Tryz.pinned.checked.prog) = true := by kernel_rfl
theorem fact4 : (Tryz.f3.params.all (Tryz.pinned.checked.prog.readableRec ·)) = true := by kernel_rfl
theorem fact5 : (namedTie Tryz.pinned.checked.prog Rows.evalPresentUptoRow.named (Rows.OpenSpec.upto Rows.evalPresentSpec).bare.vars) = true := by kernel_rfl
theorem fact6 : ((Rows.evalPresentUptoRow.stops == [])) = true := by kernel_rfl
theorem fact7 : ((Tryz.pinned.checked.prog.stops == [])) = true := by kernel_rfl
theorem fact8 : ((Rows.evalPresentUptoRow.knobs == [])) = true := by kernel_rfl
theorem fact9 : ((Tryz.pinned.checked.prog.stopKnobs == [])) = true := by kernel_rfl
theorem fact10 : ((Rows.evalPresentUptoRow.inPlace == Tryz.pinned.checked.prog.inPlace 3)) = true := by kernel_rfl
theorem fact11 : ((Rows.evalPresentUptoRow.unfollowed == Tryz.pinned.checked.prog.unfollowed 3)) = true := by kernel_rfl
theorem fact12 : ((Rows.evalPresentUptoRow.recurses == Tryz.pinned.checked.prog.recurses 3)) = true := by kernel_rfl
theorem fact13 : ((Rows.evalPresentUptoRow.named == Tryz.pinned.checked.prog.varsNamed 3)) = true := by kernel_rfl
theorem fact14 : ((Rows.evalPresentUptoRow.maps == (Tryz.f3.params.toList ++ (Rows.OpenSpec.upto Rows.evalPresentSpec).bare.plain.varTypes Tryz.pinned.checked.prog).any (Tryz.pinned.checked.prog.mapsRec ·))) = true := by kernel_rfl
theorem fact15 : ((Rows.evalPresentUptoRow.ifaces == (Tryz.f3.params.toList ++ (Rows.OpenSpec.upto Rows.evalPresentSpec).bare.plain.varTypes Tryz.pinned.checked.prog).any (Tryz.pinned.checked.prog.ifacesRec ·))) = true := by kernel_rfl
theorem fact16 : ((Rows.evalPresentUptoRow.mapsOut == Tryz.pinned.checked.prog.mapsAmong Tryz.f3.resultTypes.toList)) = true := by kernel_rfl
theorem fact17 : ((Rows.evalPresentUptoRow.loops == (Tryz.f3.params.toList ++ (Rows.OpenSpec.upto Rows.evalPresentSpec).bare.plain.varTypes Tryz.pinned.checked.prog).any (Tryz.pinned.checked.prog.loopsFrom ·))) = true := by kernel_rfl
theorem fact18 : ((Rows.evalPresentUptoRow.wideKeys == (Tryz.f3.params.toList ++ (Rows.OpenSpec.upto Rows.evalPresentSpec).bare.plain.varTypes Tryz.pinned.checked.prog ++ Tryz.f3.resultTypes.toList).any (Tryz.pinned.checked.prog.wideKeysFrom ·))) = true := by kernel_rfl
theorem fact19 : ((Rows.OpenSpec.upto Rows.evalPresentSpec).bare.vars.all (Tryz.pinned.checked.prog.varReadable ·)) = true := by kernel_rfl
theorem fact20 : (Tryz.f3.resultTypes.all (fun t => Tryz.pinned.checked.prog.readableRec t && decide (t < Tryz.pinned.checked.prog.types.size))) = true := by kernel_rfl
theorem fact21 : ((Rows.evalPresentUptoRow.ifacesOut == Tryz.f3.resultTypes.toList.any (Tryz.pinned.checked.prog.ifacesRec ·))) = true := by kernel_rfl
theorem fact22 : ((Rows.evalPresentUptoRow.loopsOut == Tryz.f3.resultTypes.toList.any (Tryz.pinned.checked.prog.loopsFrom ·))) = true := by kernel_rfl
theorem fact23 : ((Rows.evalPresentUptoRow.plainKeys == Tryz.pinned.checked.prog.plainKeys)) = true := by kernel_rfl
theorem fact24 : (Rows.evalPresentUptoRow.shortTexts.isNone) = true := by kernel_rfl
theorem fact25 : (Tryz.pinned.checked.prog.stopsHeard) = true := by kernel_rfl
theorem fact26 : (Tryz.pinned.checked.prog.mayEnter) = true := by kernel_rfl
theorem fact27 : ((Rows.evalPresentUptoRow.lifted == Tryz.pinned.checked.prog.liftsFinal)) = true := by kernel_rfl
theorem fact28 : ((Tryz.pinned.checked.prog.make == some Rows.evalPresentUptoRow.make)) = true := by kernel_rfl
theorem fact29 : ((Rows.evalPresentUptoRow.kinds == (if Rows.evalPresentUptoRow.domain.isEmpty then [] else Tryz.f3.params.toList.map fun t => match Tryz.pinned.checked.prog.underlying t with | some (.int k) => some k | _ => none))) = true := by kernel_rfl
theorem fact30 : ((Rows.evalPresentUptoRow.pinned == Rows.evalPresentUptoRow.pinnedBy)) = true := by kernel_rfl
theorem fact31 : ((Rows.evalPresentUptoRow.veiled == (Tryz.f3.params.toList ++ (Rows.OpenSpec.upto Rows.evalPresentSpec).bare.plain.varTypes Tryz.pinned.checked.prog ++ Tryz.f3.resultTypes.toList).any (Tryz.pinned.checked.prog.veiledRec ·))) = true := by kernel_rfl
theorem fact32 : (Rows.evalPresentUptoRow.veiledFits Tryz.pinned.checked.prog Tryz.f3.params.toList (Tryz.f3.params.toList ++ (Rows.OpenSpec.upto Rows.evalPresentSpec).bare.plain.varTypes Tryz.pinned.checked.prog ++ Tryz.f3.resultTypes.toList)) = true := by kernel_rfl
end Go.Proofs.YtfojfohfhomhbaaGreatDoor
