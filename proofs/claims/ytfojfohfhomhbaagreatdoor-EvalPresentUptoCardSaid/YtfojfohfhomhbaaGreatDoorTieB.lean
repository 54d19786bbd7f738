/- What the run of the initialisers leaves in the listed variables: three closed facts, by the kernel. -/
import Derived.Test.YtfojfohfhomhbaaGreatDoorTieA
namespace Go.Proofs.YtfojfohfhomhbaaGreatDoor
open Go
set_option maxRecDepth 100000
theorem run1 : ∀ os tape, (DataW.laidRun Tryz.prog (varsWorld Tryz.prog 383 (varsId Tryz.prog) os tape).memory 8 ((seatList.filter fun x => x.2.handleName?.isNone).map (·.1))).map (·.1) = some (seatList.filter fun x => x.2.handleName?.isNone) := fun _ _ => by kernel_rfl
theorem run2a : ∀ os tape, (DataW.laidRun Tryz.prog (varsWorld Tryz.prog 383 (varsId Tryz.prog) os tape).memory 8 ((seatList.filter fun x => x.2.handleName?.isNone).map (·.1))).map (fun x => nodupBits 187 x.2 0) = some true := fun _ _ => by kernel_rfl
theorem run2b : ∀ os tape, (DataW.laidRun Tryz.prog (varsWorld Tryz.prog 383 (varsId Tryz.prog) os tape).memory 8 ((seatList.filter fun x => x.2.handleName?.isNone).map (·.1))).map (fun x => laidRowsB Tryz.prog (varsWorld Tryz.prog 383 (varsId Tryz.prog) os tape).memory x.2) = some true := fun _ _ => by kernel_rfl
end Go.Proofs.YtfojfohfhomhbaaGreatDoor
