/- EvalPresent holds: for every filter's node and every entry of bulk at most 1048576 the law returns true, and both read as they did. -/
import Derived.Test.YtfojfohfhomhbaaGreatDoorMu
import Derived.Test.YtfojfohfhomhbaaGreatDoorFac
namespace Go.Proofs.YtfojfohfhomhbaaGreatDoor
open Go.ChangeShapes Go.WideShapes Go.ChangeAt Go.RowKit

theorem both {a b : Bool} (h : a = true) (k : b = true) : (a && b) = true := by rw [h, k]; rfl

theorem closedUpto : joinedFacts Tryz.pinned.checked.prog 3 Tryz.f3 (Rows.OpenSpec.upto Rows.evalPresentSpec).bare Rows.evalPresentUptoRow = true := by
  unfold joinedFacts
  exact both (both (both (both (both (both (both (both (both (both (both (both (both (both (both (both (both (both (both (both (both (both (both (both (both (both (both (both (both (both (both fact1 fact2) fact3) fact4) fact5) fact6) fact7) fact8) fact9) fact10) fact11) fact12) fact13) fact14) fact15) fact16) fact17) fact18) fact19) fact20) fact21) fact22) fact23) fact24) fact25) fact26) fact27) fact28) (by kernel_rfl)) fact30) fact31) fact32

theorem namedUpto : Tryz.pinned.checked.prog.funcNamed Rows.evalPresentUptoRow.func = some 3 := by kernel_rfl
theorem ownUpto : Tryz.f3.isInstance Tryz.pinned.checked.prog Rows.evalPresentUptoRow.origin Rows.evalPresentUptoRow.targs := of_decide_eq_true (by kernel_rfl)
theorem wrapUpto : Tryz.f3.isWrapper Tryz.pinned.checked.prog Rows.evalPresentUptoRow.wrapper Rows.evalPresentUptoRow.mainSum := by
  unfold Func.isWrapper
  first | (rw [if_pos (by decide +kernel)]; kernel_rfl) | (rw [if_neg (by decide +kernel)]; exact ⟨rfl, rfl⟩)

theorem saidUpto : Rows.EvalPresentUptoSaid :=
  OpenClaim.holds_of_cond 3 Tryz.f3 rfl rfl rfl rfl rfl rfl rfl ⟨rfl, rfl, rfl, rfl, rfl⟩ rfl rfl rfl rfl rfl namedUpto Tryz.func3 closedUpto
    ownUpto wrapUpto
    (fun os started H enc _ F => by rw [OpenClaim.pre_eq_preRow]; exact liftedUpto os started H enc F)
end Go.Proofs.YtfojfohfhomhbaaGreatDoor
