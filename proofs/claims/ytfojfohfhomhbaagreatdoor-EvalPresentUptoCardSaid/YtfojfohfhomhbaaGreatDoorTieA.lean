/- What the row lists of the package variables is laid by the program's own text: the closed facts that ask no run. -/
import Derived.Test.YtfojfohfhomhbaaGreatDoorRows
import Derived.LaidOnce
namespace Go.Proofs.YtfojfohfhomhbaaGreatDoor
open Go
set_option maxRecDepth 100000
def seatList : List (String × DataW Unit) := [("math/bits.deBruijn32tab", Rows.laid_math_bits_deBruijn32tab), ("math/bits.deBruijn64tab", Rows.laid_math_bits_deBruijn64tab), ("internal/strconv.uint64pow10", Rows.laid_internal_strconv_uint64pow10), ("roster/rosterref01.rows", Rows.laid_roster_rosterref01_rows), ("roster/rosterref04.kinds", Rows.laid_roster_rosterref04_kinds), ("roster/rosterref06.lengths", Rows.laid_roster_rosterref06_lengths), ("unicode/utf8.acceptRanges", Rows.laid_unicode_utf8_acceptRanges), ("strconv.ErrRange", Rows.laid_strconv_ErrRange), ("strconv.ErrSyntax", Rows.laid_strconv_ErrSyntax), ("roster/dn.ErrLong", Rows.laid_roster_dn_ErrLong), ("roster/dn.ErrUTF8", Rows.laid_roster_dn_ErrUTF8), ("roster/dn.ErrType", Rows.laid_roster_dn_ErrType), ("roster/dn.ErrEquals", Rows.laid_roster_dn_ErrEquals), ("roster/dn.ErrEscape", Rows.laid_roster_dn_ErrEscape), ("roster/dn.ErrChar", Rows.laid_roster_dn_ErrChar), ("roster/dn.ErrHex", Rows.laid_roster_dn_ErrHex), ("roster/dn.ErrTwice", Rows.laid_roster_dn_ErrTwice), ("roster/dn.ErrWide", Rows.laid_roster_dn_ErrWide), ("roster/dn.ErrMade", Rows.laid_roster_dn_ErrMade), ("roster/match.kinds", Rows.laid_roster_match_kinds)]
def seatKinds : List LaidKind := [.data, .data, .data, .data, .data, .data, .data, .sentinel, .sentinel, .sentinel, .sentinel, .sentinel, .sentinel, .sentinel, .sentinel, .sentinel, .sentinel, .sentinel, .sentinel, .wider]
theorem worded : Tryz.prog.worded (varsWordLater true) = true := by kernel_rfl
theorem wordedNot : Tryz.prog.worded (varsWordLater !true) = false := by kernel_rfl
theorem rooted : Tryz.prog.worded rootWordLater = true := by kernel_rfl
theorem kinded : seatList.map (fun x => Tryz.prog.kindOfLater x.1) = seatKinds.map some := by kernel_rfl
theorem doored : (Tryz.prog.funcNamed "gosem.cut.vars").isSome = true := by kernel_rfl
theorem numbered : varsNamedLaterB Tryz.prog (varsId Tryz.prog) seatList = true := by kernel_rfl
theorem ended : ∀ os tape, varsDone Tryz.prog 383 (varsId Tryz.prog) os tape = true := fun _ _ => by kernel_rfl
theorem run3 : ∀ os tape, (seatList.filter fun x => x.2.handleName?.isSome && x.2.funcsIn?.isNone).all (handleAtB Tryz.prog (varsWorld Tryz.prog 383 (varsId Tryz.prog) os tape).memory) = true := fun _ _ => by kernel_rfl
theorem run4 : ∀ os tape, funcsRun Tryz.prog (varsWorld Tryz.prog 383 (varsId Tryz.prog) os tape).memory 8 ((funcsListed seatList).map (·.1)) = some ((funcsListed seatList).map (·.2.funcsOut)) := fun _ _ => by kernel_rfl
end Go.Proofs.YtfojfohfhomhbaaGreatDoor
