/-
  DERIVED. GIVEN WITH THE SEED: THE CARDS: each row of YtfojfohfhomhbaaGreatDoorRows.lean that lists a variable, with what it lists TIED to the program's text (the seventh form; the later family's looks); each row that meets fmt, with fmt's text TOLD by the authors' own Lean function (tested against real Go, not proved from fmt's source: count such statements apart). THE CARD IS WHAT COUNTS. Prove the row's statement (the work); the ties are given (YtfojfohfhomhbaaGreatDoorTie.lean); close each card by the builder's one call (the guide's Derived/Test/ToyasCard.lean, 'card_holds'). Laid BY PROGRAM, IN A SANDBOX (cutbox-door.mjs). By AI agents, Wed Nov 11 2026. No macro, syntax, notation, axiom, sorry.
-/
import Derived.Test.YtfojfohfhomhbaaGreatDoorRows
import GoSem.ClaimSeven
namespace Go.Proofs.YtfojfohfhomhbaaGreatDoor
namespace Rows

/-- THE TIED CARD OF 'rosterlaw14.EvalPresent'. -/
def evalPresentCard : Claim7 := { stood := { row := evalPresentRow, standIns := [], harness := (true, "58aeeaa8722a24eab70207c3d2ea67585d85826a34d64c737b81133f63f180c4"), looks := true }, kinds := [], alts := [], laidByText := true, laidKinds := [.data, .data, .data, .data, .data, .data, .data, .sentinel, .sentinel, .sentinel, .sentinel, .sentinel, .sentinel, .sentinel, .sentinel, .sentinel, .sentinel, .sentinel, .sentinel, .wider, .pinned], laidTests := true, laidLooks := .later }
def EvalPresentCardSaid : Prop := Claim7.holds Tryz.pinned (.plain (OpenSpec.ofChange evalPresentSpec)) evalPresentCard

/-- THE SECOND FORM's CARD OF 'rosterlaw14.EvalPresent'. -/
def evalPresentUptoCard : Claim7 := { stood := { row := evalPresentUptoRow, standIns := [], harness := (true, "58aeeaa8722a24eab70207c3d2ea67585d85826a34d64c737b81133f63f180c4"), looks := true }, kinds := [], alts := [], laidByText := true, laidKinds := [.data, .data, .data, .data, .data, .data, .data, .sentinel, .sentinel, .sentinel, .sentinel, .sentinel, .sentinel, .sentinel, .sentinel, .sentinel, .sentinel, .sentinel, .sentinel, .wider, .pinned], laidTests := true, laidLooks := .later }
def EvalPresentUptoCardSaid : Prop := Claim7.holds Tryz.pinned (.plain (OpenSpec.upto evalPresentSpec)) evalPresentUptoCard
end Rows
end Go.Proofs.YtfojfohfhomhbaaGreatDoor
