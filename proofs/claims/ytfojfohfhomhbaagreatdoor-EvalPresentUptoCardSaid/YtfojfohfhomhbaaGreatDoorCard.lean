/- The card of EvalPresent's second form holds: for every filter's node and every entry of bulk at most 1048576 the law returns true, both read as they did, and what the row lists of the package variables is tied to the program's text. -/
import Derived.Test.YtfojfohfhomhbaaGreatDoorMv
import Derived.Test.YtfojfohfhomhbaaGreatDoorCards
import Derived.Test.YtfojfohfhomhbaaGreatDoorMw
namespace Go.Proofs.YtfojfohfhomhbaaGreatDoor
open Go

theorem plainUpto (f : FuncId) (fn : Func) (hf : Tryz.pinned.checked.prog.funcNamed "roster/rosterlaw14.EvalPresent" = some f) (hfn : Tryz.pinned.checked.prog.funcs[f]? = some fn) :
    true = Tryz.pinned.checked.prog.looks [] ∧ ∀ (j : Nat) t, fn.params[j]? = some t → Tryz.pinned.checked.prog.wantsStandIn t = false := by
  obtain rfl : f = 3 := Option.some.inj ((show Tryz.prog.funcNamed "roster/rosterlaw14.EvalPresent" = some 3 by kernel_rfl).symm.trans hf) |>.symm
  obtain rfl : fn = Tryz.f3 := (Option.some.inj (Tryz.func3.symm.trans hfn)).symm
  refine ⟨by kernel_rfl, fun j t ht => ?_⟩
  rw [Tryz.params3] at ht
  have hm := Array.mem_of_getElem? ht
  simp only [List.mem_toArray, List.mem_cons, List.not_mem_nil, or_false] at hm
  rcases hm with rfl | rfl
  · exact (show Tryz.prog.wantsStandIn 27 = false by kernel_rfl)
  · exact (show Tryz.prog.wantsStandIn 30 = false by kernel_rfl)

theorem wfUpto : Rows.evalPresentUptoRow.wfByText (Rows.OpenSpec.upto Rows.evalPresentSpec) = true := by kernel_rfl
theorem mainUpto : Tryz.pinned.checked.prog.mainIs = some (true, "58aeeaa8722a24eab70207c3d2ea67585d85826a34d64c737b81133f63f180c4".toList) := by kernel_rfl
theorem goesUpto : false = Rows.evalPresentUptoRow.goesBy Tryz.pinned.checked.prog := by kernel_rfl

theorem cardUpto : Rows.EvalPresentUptoCardSaid :=
  Claim7.holds_tied_plain_at .later [] _ _ _ _ saidUpto (fun _ h => by cases h) wfUpto (fun _ h => by cases h) evalPresentUpto_row_tie rfl ⟨rfl, rfl⟩ mainUpto rfl plainUpto goesUpto
end Go.Proofs.YtfojfohfhomhbaaGreatDoor
