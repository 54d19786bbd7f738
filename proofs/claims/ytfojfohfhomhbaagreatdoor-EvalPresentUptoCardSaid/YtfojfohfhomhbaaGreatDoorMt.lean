/- EvalPresent: for every filter's node and every entry of bulk at most 1048576 the law returns true, and both read as they did. -/
import Derived.Test.YtfojfohfhomhbaaGreatDoorCards
import Derived.Test.YtfojfohfhomhbaaGreatDoorMs
import Derived.OpenShut
import Derived.LaidMore
import Derived.Lay
import Derived.SevenTiedAt
import Derived.Deep.DeepHandedRow
import Derived.Deep.DeepWitnessRowRef
import Derived.Shelf.Vars
import Derived.Lib.LaidTab
namespace Go.Proofs.YtfojfohfhomhbaaGreatDoor
open Go.ChangeShapes Go.WideShapes Go.ChangeAt Go.RowKit Go.Deep

theorem own : ownKnob Tryz.prog.godebug = none := by kernel_rfl
/-- The library's variable holds some number, as its type says. -/
theorem maxOf {W : World} (h : W.ShapedOpen Tryz.prog) : MaxAt W := cell_of_shapedOpen_int (zero := #[.int .i64 0]) (t := 3) h (of_decide_eq_true (by kernel_rfl)) (by kernel_rfl) rfl (by kernel_rfl) (by kernel_rfl) Tryz.underlying3

/-- The document's table, as the row lists it. -/
def kindsD : List (List Int) := tab4.map fun r => [r.sup, r.syn, r.op]
theorem kindsD_eq : (Rows.laid_roster_rosterref04_kinds : DataW Unit) = .agg (kindsD.map fun l => .agg (l.map fun z => .lit (.int .i64 z))) := by kernel_rfl
theorem cells80 : Tryz.prog.cellsOf 80 = 3 := by kernel_rfl
theorem kindsOf {W : World} (h : laidMetH Tryz.prog Rows.evalPresentUptoRow.laid W) : KindsAt W := by
  rw [MakeChecks.laidMetH_plain _ _ _ (by kernel_rfl)] at h
  have hm : ("roster/rosterref04.kinds", Rows.laid_roster_rosterref04_kinds) ∈ Rows.evalPresentUptoRow.laid := by simp [Rows.evalPresentUptoRow]
  obtain ⟨ps, hv, _⟩ := h
  have key : ∀ {l : List (String × DataW Unit)} {ps : List MemPlace}, DataW.LaidVars Tryz.prog W l ps → ("roster/rosterref04.kinds", Rows.laid_roster_rosterref04_kinds) ∈ l → ∃ g t cs fuel p, Tryz.prog.globalNamed "roster/rosterref04.kinds" = some g ∧ (Tryz.prog.globals[g]?).map (·.type) = some t ∧ W.var? Tryz.prog "roster/rosterref04.kinds" = some cs ∧
      DataW.trod (fun _ => ()) Tryz.prog W 0 (fun _ => true) false fuel t cs.toList = some (Rows.laid_roster_rosterref04_kinds, p) := by
    intro l
    induction l with
    | nil => intro ps _ h; cases h
    | cons x r ih =>
      intro ps h hm
      obtain ⟨g, t, cs, fuel, p, q, h1, h2, h3, h4, h5, _⟩ := h
      rcases List.mem_cons.1 hm with e | e
      · subst e; exact ⟨g, t, cs, fuel, p, h1, h2, h3, h4⟩
      · exact ih h5 e
  obtain ⟨g, t, cs, fuel, p, hg, ht, hvar, hd⟩ := key hv hm
  obtain rfl := Option.some.inj ((show Tryz.prog.globalNamed "roster/rosterref04.kinds" = some 0 by kernel_rfl).symm.trans hg)
  obtain rfl := Option.some.inj ((show (Tryz.prog.globals[0]?).map (·.type) = some 81 by kernel_rfl).symm.trans ht)
  rw [kindsD_eq] at hd
  obtain ⟨xs, m, _, ex, _, hl, hel⟩ := DataW.trod_array Tryz.underlying81 hd
  have hD : xs.map (·.1) = kindsD.map fun l => DataW.agg (l.map fun z => .lit (.int .i64 z)) := (DataW.agg.inj (Prod.mk.inj ex).1).symm
  have hlen : kindsD.length = 62 := by decide +kernel
  have cell : ∀ i (hi : i < 62) j (hj : j < 3), ∃ hk : j < (kindsD[i]'(by omega)).length, W.cell? ⟨0, i * 3 + j, none⟩ = some (.int .i64 ((kindsD[i]'(by omega))[j])) := by
    intro i hi j hj
    have hE := hel i hi
    rw [cells80, List.getElem?_eq_getElem (by omega)] at hE
    have hx : (xs[i]'(by omega)).1 = .agg ((kindsD[i]'(by omega)).map fun z => .lit (.int .i64 z)) := by
      have h2 : (xs.map (·.1))[i]'(by simp; omega) = (kindsD.map fun l => DataW.agg (l.map fun z => (DataW.lit (.int .i64 z) : DataW Unit)))[i]'(by simp; omega) := by congr 1
      simpa using h2
    have hE2 : DataW.trod (fun _ => ()) Tryz.prog W 0 (fun _ => true) false m 80 ((cs.toList.drop (i * 3)).take 3) = some (.agg ((kindsD[i]'(by omega)).map fun z => .lit (.int .i64 z)), (xs[i]'(by omega)).2) := by
      rw [hE, ← hx]
    have hc := Lib.cells_of_tab Tryz.underlying80 Tryz.underlying3 cells3 cells80 hE2
    have hlen3 : (kindsD[i]'(by omega)).length = 3 := by
      have := List.getElem_mem (l := kindsD) (by omega : i < kindsD.length)
      simp only [kindsD, List.mem_map] at this
      obtain ⟨r, _, hr⟩ := this
      simp only [kindsD] at *
      rw [← hr]; rfl
    refine ⟨by omega, ?_⟩
    rw [World.var?_cell hg hvar (i * 3 + j)]
    have h0 : ((cs.toList.drop (i * 3)).take 3)[j]? = some (.int .i64 ((kindsD[i]'(by omega))[j]'(by omega))) := by rw [hc]; simp [hlen3, hj]
    rw [List.getElem?_take_of_lt hj, List.getElem?_drop] at h0
    simpa using h0
  have row : ∀ i (hi : i < 62), kindsD[i]'(by omega) = [(row4 i).sup, (row4 i).syn, (row4 i).op] := by
    intro i hi
    have h1 := tabAt hi
    have h2 : kindsD[i]? = some [(row4 i).sup, (row4 i).syn, (row4 i).op] := by simp [kindsD, h1]
    exact (List.getElem?_eq_some_iff.1 h2).2
  refine ⟨?_, fun i hi => ?_⟩
  · obtain ⟨_, h0⟩ := cell 0 (by omega) 0 (by omega)
    exact World.block_lt_of_cell? _ _ h0
  · obtain ⟨_, h0⟩ := cell i hi 0 (by omega)
    obtain ⟨_, h1⟩ := cell i hi 1 (by omega)
    obtain ⟨_, h2⟩ := cell i hi 2 (by omega)
    simp only [row i hi] at h0 h1 h2
    exact ⟨h0, h1, h2⟩

theorem laidOut : laidOutB Tryz.prog = true := by kernel_rfl
set_option maxRecDepth 100000 in
/-- WHAT THE WALK GIVES, FOR EVERY NODE AND EVERY ENTRY WITHIN THE BOUND. -/
theorem contract (H : Type) (enc : TypeId × Value → H) (W : World) (base : Nat) (args : Array Value) (ds gs : List (DataW H)) (before : List MemPlace)
    (hval : ∀ (j : Nat) t v, Tryz.f3.params[j]? = some t → args[j]? = some v → Value.okWide Tryz.prog W .any base t v)
    (hW : DataW.Whole enc Tryz.prog Tryz.f3.params.toList Rows.evalPresentSpec.vars false W args.toList ds gs before) (hk : Rows.uptoSmall H (ds ++ gs) = true) (hL : laidMetH Tryz.prog Rows.evalPresentUptoRow.laid W) (hsh : W.ShapedOpen Tryz.prog) :
    Calls Tryz.prog 3 args W fun e W' => ∃ v, e = .returned v ∧ Rows.evalPresentSpec.post enc Tryz.prog Tryz.f3 false true false false W args v W' := by
  have hW' := hW
  obtain ⟨p, q, hA0, hV, rfl, hfz, hnd⟩ := hW
  have hA : DataW.TrodAll enc Tryz.prog W 0 (fun _ => true) true Tryz.f3.params.toList args.toList ds p := hA0
  rw [Tryz.params3] at hA hval
  obtain ⟨v0, vs0, d0, ds0, p0, q0, hargs, rfl, rfl, h0, r0⟩ := trodAll_cons hA
  obtain ⟨v1, vs1, d1, ds1, p1, q1, hargs1, rfl, rfl, h1, r1⟩ := trodAll_cons r0
  obtain ⟨rfl, rfl, rfl⟩ := trodAll_nil r1
  obtain rfl : args = #[v0, v1] := by cases args; simp_all
  obtain ⟨rfl, rfl⟩ := trodVars_none hV
  obtain ⟨cs0, rfl, hs0⟩ := okWide_struct Tryz.underlying27 (hval 0 27 v0 rfl rfl)
  obtain ⟨cs1, rfl, hs1⟩ := okWide_struct Tryz.underlying30 (hval 1 30 v1 rfl rfl)
  rw [cells27] at hs0
  rw [cells30] at hs1
  obtain ⟨a0, a1, a2, a3, a4, a5, a6, a7, a8, rfl⟩ := array9 hs0
  obtain ⟨b0, b1, b2, b3, rfl⟩ := array4v hs1
  have h0k := h0
  have h1k := h1
  obtain ⟨f0, h0⟩ := h0
  obtain ⟨f1, h1⟩ := h1
  obtain ⟨n, NA, nk, nc, AL, e0, hnc, hnr, hnk, hnd'⟩ := openNode h0
  obtain ⟨ln, nm, KA, A, kn, kc, m, mc, KL, L, e1, hkc, hkr, hkn, hr, ht, hm, hv, hc⟩ := openEntry h1
  have hb := bulk_bound hk
  have hb0 : Rows.uptoBulk d0 ≤ 1048576 := Nat.le_trans (bulk_part (by simp)) hb
  have hb1 : Rows.uptoBulk d1 ≤ 1048576 := Nat.le_trans (bulk_part (by simp)) hb
  simp only at hnk hnd' hkn ht hm hv hc
  have walk := law_any n AL NA nk nc KL L nm ln KA A kn kc m mc W hnr hnc (by omega) hkr hkc (by omega) hr (by omega) (fun a ha => by have := hv a ha; omega) (by omega) (by omega) (fun a ha => by have := hc a ha; omega) (maxOf hsh) (kindsOf hL)
  rw [← e0, ← e1] at walk
  refine walk.mono fun e W' ⟨he, hg⟩ => ?_
  subst he
  have hlt : ∀ x ∈ p0 ++ p1, x.block < W.heap.size := fun x hx => hW'.lt x (by simpa using hx)
  have g0 : DataW.Trod enc Tryz.prog W' 0 (fun b => decide (b < W.heap.size)) true 27 _ d0 p0 := Below.trod laidOut (by kernel_rfl) (of_decide_eq_true (by kernel_rfl)) h0k hg (fun x hx => hlt x (List.mem_append_left _ hx))
  have g1 : DataW.Trod enc Tryz.prog W' 0 (fun b => decide (b < W.heap.size)) true 30 _ d1 p1 := Below.trod laidOut (by kernel_rfl) (of_decide_eq_true (by kernel_rfl)) h1k hg (fun x hx => hlt x (List.mem_append_right _ hx))
  exact ⟨_, rfl, _, _, _, [], p0 ++ (p1 ++ []), [], hW', trodAll_cons_mk (shut_bool Tryz.underlying4 true) trodAll_mk0, trodAll_cons_mk g0 (trodAll_cons_mk g1 trodAll_mk0), rfl, hg.frame _, fun h => by cases h⟩
end Go.Proofs.YtfojfohfhomhbaaGreatDoor
