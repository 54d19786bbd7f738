/- What the row lists of the package variables is tied to the program's text. -/
import Derived.Test.YtfojfohfhomhbaaGreatDoorTieB
import Derived.SevenTiedAt
namespace Go.Proofs.YtfojfohfhomhbaaGreatDoor
open Go
set_option maxRecDepth 100000

theorem tie : Tryz.prog.laidByTextLater seatList seatKinds true := by
  have hn := numbered
  unfold varsNamedLaterB at hn
  cases hc : (Tryz.prog.funcs[varsId Tryz.prog]?).bind (·.body) with
  | none => simp [hc] at hn
  | some code =>
   cases hs : code.laysInOrder [] with
   | none => simp [hc, hs] at hn
   | some stored =>
    simp only [hc, hs, Bool.and_eq_true] at hn
    refine ⟨⟨worded, wordedNot, rooted, kinded⟩, varsId Tryz.prog, code, stored, varsId_spec doored, hc, ⟨hs, hn.1.1, hn.1.2⟩, hn.2, fun os tape _ => ?_⟩
    have d := ended os tape
    have e1 := run1 os tape
    have e2 := run2a os tape
    have e3 := run2b os tape
    have e4 := run3 os tape
    have e5 := run4 os tape
    unfold varsDone at d
    unfold varsWorld at e1 e2 e3 e4 e5
    cases hr : runN Tryz.prog 383 (Machine.entering Tryz.prog (World.unlaid Tryz.prog os) tape (varsId Tryz.prog) ⟨#[], #[], []⟩) with
    | next mm => simp [hr] at d
    | ended o w =>
      cases o with
      | done v =>
        simp only [hr] at e1 e2 e3 e4 e5
        refine ⟨383, v, w, hr, laidMetH_of_parts3 ?_ e4 e5⟩
        simp only [Option.map_eq_some_iff] at e1 e2 e3
        obtain ⟨x, hx, a1⟩ := e1
        obtain ⟨y, hy, a2⟩ := e2
        obtain ⟨z, hz, a3⟩ := e3
        obtain rfl : x = y := Option.some.inj (hx.symm.trans hy)
        obtain rfl : x = z := Option.some.inj (hx.symm.trans hz)
        exact laidMet_of_run (ps := x.2) 8 (by rw [hx, ← a1]) (decide_eq_true (nodupBits_sound a2).1) a3
      | _ => simp [hr] at d

theorem pin_laid_unicode_utf8_first : Tryz.pinned.checked.prog.pinnedFits "unicode/utf8.first" = true := by kernel_rfl
theorem noOwnUnsafe : Tryz.pinned.checked.prog.headLifts.contains "ownunsafe" = false := by kernel_rfl
theorem fits1 : Tryz.pinned.checked.prog.listedFits [("math/bits.deBruijn32tab", Rows.laid_math_bits_deBruijn32tab), ("math/bits.deBruijn64tab", Rows.laid_math_bits_deBruijn64tab), ("internal/strconv.uint64pow10", Rows.laid_internal_strconv_uint64pow10), ("roster/rosterref01.rows", Rows.laid_roster_rosterref01_rows), ("roster/rosterref04.kinds", Rows.laid_roster_rosterref04_kinds), ("roster/rosterref06.lengths", Rows.laid_roster_rosterref06_lengths), ("unicode/utf8.acceptRanges", Rows.laid_unicode_utf8_acceptRanges), ("strconv.ErrRange", Rows.laid_strconv_ErrRange), ("strconv.ErrSyntax", Rows.laid_strconv_ErrSyntax), ("roster/dn.ErrLong", Rows.laid_roster_dn_ErrLong), ("roster/dn.ErrUTF8", Rows.laid_roster_dn_ErrUTF8), ("roster/dn.ErrType", Rows.laid_roster_dn_ErrType), ("roster/dn.ErrEquals", Rows.laid_roster_dn_ErrEquals), ("roster/dn.ErrEscape", Rows.laid_roster_dn_ErrEscape), ("roster/dn.ErrChar", Rows.laid_roster_dn_ErrChar), ("roster/dn.ErrHex", Rows.laid_roster_dn_ErrHex), ("roster/dn.ErrTwice", Rows.laid_roster_dn_ErrTwice), ("roster/dn.ErrWide", Rows.laid_roster_dn_ErrWide), ("roster/dn.ErrMade", Rows.laid_roster_dn_ErrMade), ("roster/match.kinds", Rows.laid_roster_match_kinds), ("unicode/utf8.first", Rows.laid_unicode_utf8_first)] = true := by
  unfold Program.listedFits
  rw [noOwnUnsafe]
  kernel_rfl
theorem evalPresentUpto_row_tie : Rows.evalPresentUptoRow.laidByTextAt .later Tryz.pinned [.data, .data, .data, .data, .data, .data, .data, .sentinel, .sentinel, .sentinel, .sentinel, .sentinel, .sentinel, .sentinel, .sentinel, .sentinel, .sentinel, .sentinel, .sentinel, .wider, .pinned] true :=
  OpenClaim.laidByTextAt_pinned rfl rfl tie rfl rfl rfl rfl (fun y hy _e => by
    simp only [Rows.evalPresentUptoRow, List.zip_cons_cons, List.zip_nil_right, List.mem_cons, List.mem_nil_iff, or_false] at hy
    rcases hy with rfl | rfl | rfl | rfl | rfl | rfl | rfl | rfl | rfl | rfl | rfl | rfl | rfl | rfl | rfl | rfl | rfl | rfl | rfl | rfl | rfl
    · cases _e
    · cases _e
    · cases _e
    · cases _e
    · cases _e
    · cases _e
    · cases _e
    · cases _e
    · cases _e
    · cases _e
    · cases _e
    · cases _e
    · cases _e
    · cases _e
    · cases _e
    · cases _e
    · cases _e
    · cases _e
    · cases _e
    · cases _e
    · exact ⟨pin_laid_unicode_utf8_first, by kernel_rfl⟩) fits1
end Go.Proofs.YtfojfohfhomhbaaGreatDoor
