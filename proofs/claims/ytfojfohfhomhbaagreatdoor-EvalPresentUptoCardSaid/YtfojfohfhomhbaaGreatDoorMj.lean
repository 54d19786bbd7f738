/- Walks: the law's copy of a node, and whether two nodes are the same. -/
import Derived.Test.YtfojfohfhomhbaaGreatDoorMd
import Derived.Test.YtfojfohfhomhbaaGreatDoorMi
namespace Go.Proofs.YtfojfohfhomhbaaGreatDoor
open Go.RowKit

theorem Roomy.set {L : List ByteArray} {base : Nat} {w : World} {v u : Value} {a : Addr} (h : Roomy L base w v) (ha : a.block < base) : Roomy L base (w.setCell a u) v := by
  obtain ⟨g, c, e, hg, ho⟩ := h
  exact ⟨g, c, e, hg, ownsHeap ho (fun g' hg' => heap_setCell_other _ _ _ _ (by have := ownLe ho g' hg'; omega))⟩
theorem Roomy.base {L : List ByteArray} {base base' : Nat} {w : World} {v : Value} (h : Roomy L base w v) (hb : base' ≤ base) : Roomy L base' w v := by
  obtain ⟨g, c, e, hg, ho⟩ := h
  exact ⟨g, c, e, Nat.le_trans hb hg, ownsBase ho hb⟩
/-- The node with another list in it. -/
def nodeW (n : NodeD) (v : Value) : Value := .agg #[.int .i64 n.depth, .int .i64 n.op, .string n.desc, .string n.value, .string n.ini, v, .string n.fin, .string n.rule, .bool n.dn]
set_option maxHeartbeats 3200000 in
set_option maxRecDepth 100000 in
theorem copynode_any (n : NodeD) (L : List ByteArray) (A : Option Addr) (k c : Nat) (w : World) (hr : Rd w w.heap.size 1 A k (sv L)) (hc : SlOk A k c) (hn : k ≤ 1099511) :
    Calls Tryz.prog 5 #[nodeV n A k c] w fun e w' => ∃ v, e = .returned (nodeW n v) ∧ Roomy L w.heap.size w' v ∧ Below w.heap.size w w' := by
  rw [nodeF]
  have HR := hid hr
  have HC := hid hc
  have HB := hid (below2 w (.cells #[.int .i64 n.depth, .int .i64 n.op, .string n.desc, .string n.value, .string n.ini, .slice A k c, .string n.fin, .string n.rule, .bool n.dn] 27) (.cells #[.int .i64 0, .int .i64 0, .string ⟨#[]⟩, .string ⟨#[]⟩, .string ⟨#[]⟩, .slice none 0 0, .string ⟨#[]⟩, .string ⟨#[]⟩, .bool false] 27))
  clear hr hc
  go_enter Tryz.func5, Tryz.ntmps5
  go_wp2_with (fail)
  go_must (refine (roomy_any L A k c _ ((HR.out.up (below1 w _)).up (below1 _ _)) HC.out hn).mono ?_)
  rintro e w1 ⟨v, rfl, hv, hb1⟩
  have HB1 := hid ((hb1.block w.heap.size (by simp; omega)).trans (heap_alloc2_old w _ _))
  have HZ1 := hid ((hb1.block (w.heap.size + 1) (by simp)).trans (heap_alloc2_new w _ _))
  have HW := hid (belowNext HB.out hb1)
  have HV := hid hv
  obtain ⟨g, c', rfl, hg, _⟩ := hv
  have hg2 : w.heap.size + 2 ≤ g := by simpa using hg
  have b0 : w1.cell? ⟨w.heap.size, 0, none⟩ = some (.int .i64 n.depth) := blkCell HB1.out 0
  have f0 := blkFree HB1.out 0
  have b1 : w1.cell? ⟨w.heap.size, 1, none⟩ = some (.int .i64 n.op) := blkCell HB1.out 1
  have f1 := blkFree HB1.out 1
  have b2 : w1.cell? ⟨w.heap.size, 2, none⟩ = some (.string n.desc) := blkCell HB1.out 2
  have f2 := blkFree HB1.out 2
  have b3 : w1.cell? ⟨w.heap.size, 3, none⟩ = some (.string n.value) := blkCell HB1.out 3
  have f3 := blkFree HB1.out 3
  have b4 : w1.cell? ⟨w.heap.size, 4, none⟩ = some (.string n.ini) := blkCell HB1.out 4
  have f4 := blkFree HB1.out 4
  have b5 : w1.cell? ⟨w.heap.size, 5, none⟩ = some (.slice A k c) := blkCell HB1.out 5
  have f5 := blkFree HB1.out 5
  have b6 : w1.cell? ⟨w.heap.size, 6, none⟩ = some (.string n.fin) := blkCell HB1.out 6
  have f6 := blkFree HB1.out 6
  have b7 : w1.cell? ⟨w.heap.size, 7, none⟩ = some (.string n.rule) := blkCell HB1.out 7
  have f7 := blkFree HB1.out 7
  have b8 : w1.cell? ⟨w.heap.size, 8, none⟩ = some (.bool n.dn) := blkCell HB1.out 8
  have f8 := blkFree HB1.out 8
  have z0 : w1.cell? ⟨w.heap.size + 1, 0, none⟩ = some (.int .i64 0) := blkCell HZ1.out 0
  have o0 := blkFree HZ1.out 0
  have z1 : w1.cell? ⟨w.heap.size + 1, 1, none⟩ = some (.int .i64 0) := blkCell HZ1.out 1
  have o1 := blkFree HZ1.out 1
  have z2 : w1.cell? ⟨w.heap.size + 1, 2, none⟩ = some (.string ⟨#[]⟩) := blkCell HZ1.out 2
  have o2 := blkFree HZ1.out 2
  have z3 : w1.cell? ⟨w.heap.size + 1, 3, none⟩ = some (.string ⟨#[]⟩) := blkCell HZ1.out 3
  have o3 := blkFree HZ1.out 3
  have z4 : w1.cell? ⟨w.heap.size + 1, 4, none⟩ = some (.string ⟨#[]⟩) := blkCell HZ1.out 4
  have o4 := blkFree HZ1.out 4
  have z5 : w1.cell? ⟨w.heap.size + 1, 5, none⟩ = some (.slice none 0 0) := blkCell HZ1.out 5
  have o5 := blkFree HZ1.out 5
  have z6 : w1.cell? ⟨w.heap.size + 1, 6, none⟩ = some (.string ⟨#[]⟩) := blkCell HZ1.out 6
  have o6 := blkFree HZ1.out 6
  have z7 : w1.cell? ⟨w.heap.size + 1, 7, none⟩ = some (.string ⟨#[]⟩) := blkCell HZ1.out 7
  have o7 := blkFree HZ1.out 7
  have z8 : w1.cell? ⟨w.heap.size + 1, 8, none⟩ = some (.bool false) := blkCell HZ1.out 8
  have o8 := blkFree HZ1.out 8
  clear hb1 hg
  go_wp2
  exact bodyPost_ret (results_cell_row rfl _ _ (w.heap.size + 1) _ _ (0, 0) _ rfl (blkSet (blkSet (blkSet (blkSet (blkSet (blkSet (blkSet (blkSet (blkSet ((heap_setCell_other _ _ _ _ (by simp)).trans HZ1.out) 0 _) 1 _) 2 _) 3 _) 4 _) 5 _) 6 _) 7 _) 8 _) Tryz.underlying27 rfl (by kernel_rfl)) rfl ⟨.slice (some ⟨g, 0, none⟩) L.length c', rfl, ((((((((((HV.out.set (a := ⟨w.heap.size, 5, none⟩) (by simp; omega)).set (a := ⟨w.heap.size + 1, 0, none⟩) (by simp)).set (a := ⟨w.heap.size + 1, 1, none⟩) (by simp)).set (a := ⟨w.heap.size + 1, 2, none⟩) (by simp)).set (a := ⟨w.heap.size + 1, 3, none⟩) (by simp)).set (a := ⟨w.heap.size + 1, 4, none⟩) (by simp)).set (a := ⟨w.heap.size + 1, 5, none⟩) (by simp)).set (a := ⟨w.heap.size + 1, 6, none⟩) (by simp)).set (a := ⟨w.heap.size + 1, 7, none⟩) (by simp)).set (a := ⟨w.heap.size + 1, 8, none⟩) (by simp)).base (by simp; omega), (((((((((HW.out.setCell (Nat.le_refl _) _).setCell (Nat.le_succ _) _).setCell (Nat.le_succ _) _).setCell (Nat.le_succ _) _).setCell (Nat.le_succ _) _).setCell (Nat.le_succ _) _).setCell (Nat.le_succ _) _).setCell (Nat.le_succ _) _).setCell (Nat.le_succ _) _).setCell (Nat.le_succ _) _⟩

end Go.Proofs.YtfojfohfhomhbaaGreatDoor
