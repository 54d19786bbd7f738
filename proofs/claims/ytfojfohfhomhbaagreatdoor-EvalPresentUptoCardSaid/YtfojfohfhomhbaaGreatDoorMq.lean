/- Walks: the program's Item. Walks: the reference's Item: Present, and of no item. -/
import Derived.Test.YtfojfohfhomhbaaGreatDoorMi
import Derived.Test.YtfojfohfhomhbaaGreatDoorMp2
namespace Go.Proofs.YtfojfohfhomhbaaGreatDoor
open Go.RowKit

/-- The node's block, and the entry's behind it. -/
def ItemAt (w : World) (g : Nat) (n : NodeD) (A : Option Addr) (k c : Nat) (ln : Int) (nm : ByteArray) (KA : Option Addr) (kn kc : Nat) (B : Option Addr) (m mc : Nat) : Prop :=
  w.heap[g]? = some (.cells #[.int .i64 n.depth, .int .i64 n.op, .string n.desc, .string n.value, .string n.ini, .slice A k c, .string n.fin, .string n.rule, .bool n.dn] 27 (0, 0)) ∧ w.heap[g + 1]? = some (.cells #[.int .i64 ln, .string nm, .slice KA kn kc, .slice B m mc] 30 (0, 0))
theorem ItemAt.up {w w' : World} {g : Nat} {n : NodeD} {A : Option Addr} {k c : Nat} {ln : Int} {nm : ByteArray} {KA : Option Addr} {kn kc : Nat} {B : Option Addr} {m mc : Nat} (hb : Below w.heap.size w w') (h : ItemAt w g n A k c ln nm KA kn kc B m mc) : ItemAt w' g n A k c ln nm KA kn kc B m mc :=
  ⟨(hb.block _ (Array.getElem?_eq_some_iff.1 h.1).1).trans h.1, (hb.block _ (Array.getElem?_eq_some_iff.1 h.2).1).trans h.2⟩
theorem nodeDesc {w : World} {g k c : Nat} {n : NodeD} {A : Option Addr} (h : NodeAt w g n A k c) : w.cell? ⟨g, 2, none⟩ = some (.string n.desc) := blkCell h 2
theorem heldOf {w' w : World} {n : NodeD} {A : Option Addr} {k c : Nat} {ln : Int} {nm : ByteArray} {KA : Option Addr} {kn kc : Nat} {B : Option Addr} {m mc : Nat} (h : ItemAt w' w.heap.size n A k c ln nm KA kn kc B m mc) :
    w'.cell? ⟨w.heap.size, 0, none⟩ = some (.int .i64 n.depth) ∧ w'.cell? ⟨w.heap.size, 1, none⟩ = some (.int .i64 n.op) ∧ w'.cell? ⟨w.heap.size, 2, none⟩ = some (.string n.desc) ∧ w'.cell? ⟨w.heap.size, 3, none⟩ = some (.string n.value) ∧ w'.cell? ⟨w.heap.size, 4, none⟩ = some (.string n.ini) ∧ w'.cell? ⟨w.heap.size, 5, none⟩ = some (.slice A k c) ∧ w'.cell? ⟨w.heap.size, 6, none⟩ = some (.string n.fin) ∧ w'.cell? ⟨w.heap.size, 7, none⟩ = some (.string n.rule) ∧ w'.cell? ⟨w.heap.size, 8, none⟩ = some (.bool n.dn) ∧ w'.cell? ⟨w.heap.size + 1, 0, none⟩ = some (.int .i64 ln) ∧ w'.cell? ⟨w.heap.size + 1, 1, none⟩ = some (.string nm) ∧ w'.cell? ⟨w.heap.size + 1, 2, none⟩ = some (.slice KA kn kc) ∧ w'.cell? ⟨w.heap.size + 1, 3, none⟩ = some (.slice B m mc) :=
  ⟨blkCell h.1 0, blkCell h.1 1, blkCell h.1 2, blkCell h.1 3, blkCell h.1 4, blkCell h.1 5, blkCell h.1 6, blkCell h.1 7, blkCell h.1 8, blkCell h.2 0, blkCell h.2 1, blkCell h.2 2, blkCell h.2 3⟩

set_option maxHeartbeats 8000000 in
set_option maxRecDepth 100000 in
theorem eitem_no (n : NodeD) (A : Option Addr) (k c : Nat) (L : List AttrD) (nm : ByteArray) (ln : Int) (KA B : Option Addr) (kn kc m mc : Nat) (w : World) (hs : n.desc.size ≤ 1099511) (hr : AttrsAt w w.heap.size B m L) (_hn : m ≤ 1099511) (hsc : ∀ a ∈ L, a.canon.size ≤ 1099511) (hm : MaxAt w) (hop : notItem n.op) (h : synS n.desc = 0 ∨ n.op ≠ 7) :
    Calls Tryz.prog 7 #[nodeV n A k c, .agg #[.int .i64 ln, .string nm, .slice KA kn kc, .slice B m mc]] w fun e w' => e = .returned (.int .i64 1) ∧ Below w.heap.size w w' := by
  have HM := hid hm
  have HR := hid hr
  have HS := hid hsc
  have HB := hid (below2 w (.cells #[.int .i64 n.depth, .int .i64 n.op, .string n.desc, .string n.value, .string n.ini, .slice A k c, .string n.fin, .string n.rule, .bool n.dn] 27) (.cells #[.int .i64 ln, .string nm, .slice KA kn kc, .slice B m mc] 30))
  have HN := hid (show ItemAt ((w.alloc (.cells #[.int .i64 n.depth, .int .i64 n.op, .string n.desc, .string n.value, .string n.ini, .slice A k c, .string n.fin, .string n.rule, .bool n.dn] 27)).alloc (.cells #[.int .i64 ln, .string nm, .slice KA kn kc, .slice B m mc] 30)) w.heap.size n A k c ln nm KA kn kc B m mc from ⟨heap_alloc2_old _ _ _, heap_alloc2_new _ _ _⟩)
  have HF := hid (heldOf HN.out)
  clear hm hr hsc
  rw [nodeF]
  go_enter Tryz.func7, Tryz.ntmps7
  go_wp2_with (fail)
  go_region_held3 (fun w' => w'.cell? ⟨w.heap.size, 0, none⟩ = some (.int .i64 n.depth) ∧ w'.cell? ⟨w.heap.size, 1, none⟩ = some (.int .i64 n.op) ∧ w'.cell? ⟨w.heap.size, 2, none⟩ = some (.string n.desc) ∧ w'.cell? ⟨w.heap.size, 3, none⟩ = some (.string n.value) ∧ w'.cell? ⟨w.heap.size, 4, none⟩ = some (.string n.ini) ∧ w'.cell? ⟨w.heap.size, 5, none⟩ = some (.slice A k c) ∧ w'.cell? ⟨w.heap.size, 6, none⟩ = some (.string n.fin) ∧ w'.cell? ⟨w.heap.size, 7, none⟩ = some (.string n.rule) ∧ w'.cell? ⟨w.heap.size, 8, none⟩ = some (.bool n.dn) ∧ w'.cell? ⟨w.heap.size + 1, 0, none⟩ = some (.int .i64 ln) ∧ w'.cell? ⟨w.heap.size + 1, 1, none⟩ = some (.string nm) ∧ w'.cell? ⟨w.heap.size + 1, 2, none⟩ = some (.slice KA kn kc) ∧ w'.cell? ⟨w.heap.size + 1, 3, none⟩ = some (.slice B m mc)) ((first | exact HF.out | exact heldOf HN2.out))
      ((first
        | (go_at_call 13; go_must (refine (item_no n A k c _ hop hs (HM.out.below (Nat.le_refl _) (belowD HB.out)) h).mono ?_; rintro e w1 ⟨rfl, hb1⟩; have HN2 := hid (ItemAt.up hb1 HN.out); have HB2 := hid (belowNext (belowD HB.out) hb1)))
        | (go_at_call 25; go_must (refine (undefined_any _ _).mono ?_; rintro e w2 ⟨rfl, hb2⟩; have HBZ := hid (belowNext HB2.out hb2); have HN2 := hid (ItemAt.up hb2 HN2.out)))))
  go_wp2
  go_ret
  exact ⟨rfl, HBZ.out⟩

set_option maxHeartbeats 8000000 in
set_option maxRecDepth 100000 in
theorem eitem_yes (n : NodeD) (A : Option Addr) (k c : Nat) (L : List AttrD) (nm : ByteArray) (ln : Int) (KA B : Option Addr) (kn kc m mc : Nat) (w : World) (hs : n.desc.size ≤ 1099511) (hr : AttrsAt w w.heap.size B m L) (hn : m ≤ 1099511) (hsc : ∀ a ∈ L, a.canon.size ≤ 1099511) (hm : MaxAt w) (hz : synS n.desc ≠ 0) (h7 : n.op = 7) :
    Calls Tryz.prog 7 #[nodeV n A k c, .agg #[.int .i64 ln, .string nm, .slice KA kn kc, .slice B m mc]] w fun e w' => e = .returned (.int .i64 (truthI (hasS n.desc L))) ∧ Below w.heap.size w w' := by
  have HM := hid hm
  have HR := hid hr
  have HS := hid hsc
  have HB := hid (below2 w (.cells #[.int .i64 n.depth, .int .i64 n.op, .string n.desc, .string n.value, .string n.ini, .slice A k c, .string n.fin, .string n.rule, .bool n.dn] 27) (.cells #[.int .i64 ln, .string nm, .slice KA kn kc, .slice B m mc] 30))
  have HN := hid (show ItemAt ((w.alloc (.cells #[.int .i64 n.depth, .int .i64 n.op, .string n.desc, .string n.value, .string n.ini, .slice A k c, .string n.fin, .string n.rule, .bool n.dn] 27)).alloc (.cells #[.int .i64 ln, .string nm, .slice KA kn kc, .slice B m mc] 30)) w.heap.size n A k c ln nm KA kn kc B m mc from ⟨heap_alloc2_old _ _ _, heap_alloc2_new _ _ _⟩)
  have HF := hid (heldOf HN.out)
  have HZ := hid hz
  have H7 := hid h7
  clear hm hr hsc hz h7
  rw [nodeF]
  go_enter Tryz.func7, Tryz.ntmps7
  go_wp2_with (fail)
  go_region_held3 (fun w' => w'.cell? ⟨w.heap.size, 0, none⟩ = some (.int .i64 n.depth) ∧ w'.cell? ⟨w.heap.size, 1, none⟩ = some (.int .i64 n.op) ∧ w'.cell? ⟨w.heap.size, 2, none⟩ = some (.string n.desc) ∧ w'.cell? ⟨w.heap.size, 3, none⟩ = some (.string n.value) ∧ w'.cell? ⟨w.heap.size, 4, none⟩ = some (.string n.ini) ∧ w'.cell? ⟨w.heap.size, 5, none⟩ = some (.slice A k c) ∧ w'.cell? ⟨w.heap.size, 6, none⟩ = some (.string n.fin) ∧ w'.cell? ⟨w.heap.size, 7, none⟩ = some (.string n.rule) ∧ w'.cell? ⟨w.heap.size, 8, none⟩ = some (.bool n.dn) ∧ w'.cell? ⟨w.heap.size + 1, 0, none⟩ = some (.int .i64 ln) ∧ w'.cell? ⟨w.heap.size + 1, 1, none⟩ = some (.string nm) ∧ w'.cell? ⟨w.heap.size + 1, 2, none⟩ = some (.slice KA kn kc) ∧ w'.cell? ⟨w.heap.size + 1, 3, none⟩ = some (.slice B m mc)) ((first | exact HF.out | exact heldOf HN2.out))
      ((first
        | (go_at_call 13; go_must (refine (item_yes n A k c _ hs (HM.out.below (Nat.le_refl _) (belowD HB.out)) HZ.out H7.out).mono ?_; rintro e w1 ⟨rfl, hn1, hb1⟩; have HNA := hid (show w1.cell? ⟨w.heap.size + 1 + 1, 2, none⟩ = some (.string n.desc) by simpa using nodeDesc hn1); clear hn1; have HN2 := hid (ItemAt.up hb1 HN.out); have HB2 := hid (belowNext (belowD HB.out) hb1)))
        | (go_at_call 26; go_must (refine (item1_any L n.desc nm ln KA B kn kc m mc _ _ HNA.out (HR.out.up HB2.out) hn hs HS.out (HM.out.below (Nat.le_refl _) HB2.out)).mono ?_; rintro e w2 ⟨rfl, hb2⟩; have HBZ := hid (belowNext HB2.out hb2); have HN2 := hid (ItemAt.up hb2 HN2.out)))))
  go_wp2
  go_ret
  exact ⟨rfl, HBZ.out⟩
end Go.Proofs.YtfojfohfhomhbaaGreatDoor

namespace Go.Proofs.YtfojfohfhomhbaaGreatDoor
open Go.RowKit

theorem rof_any (b : Bool) (w : World) : Calls Tryz.prog 17 #[.bool b] w fun e w' => e = .returned (.int .i64 (truthI b)) ∧ w = w' := by
  go_enter Tryz.func17, Tryz.ntmps17
  cases b
  all_goals (go_wp2; go_ret; exact ⟨rfl, rfl⟩)

set_option maxHeartbeats 4000000 in
set_option maxRecDepth 100000 in
theorem ritem_any (n : NodeD) (A : Option Addr) (k c : Nat) (L : List AttrD) (nm : ByteArray) (ln : Int) (KA B : Option Addr) (kn kc m mc : Nat) (w : World) (hs : n.desc.size ≤ 1099511) (hr : AttrsAt w w.heap.size B m L) (hn : m ≤ 1099511) (ht : totV L ≤ 1099511) (hsc : ∀ a ∈ L, a.canon.size ≤ 1099511) (hk : KindsAt w) (hop : notItem n.op) :
    Calls Tryz.prog 8 #[nodeV n A k c, .agg #[.int .i64 ln, .string nm, .slice KA kn kc, .slice B m mc]] w fun e w' => e = .returned (.int .i64 (if synS n.desc = 0 ∨ n.op ≠ 7 then 1 else truthI (hasS n.desc L))) ∧ Below w.heap.size w w' := by
  have HK := hid hk
  have HR := hid hr
  have HS := hid hsc
  have HB := hid (below2 w (.cells #[.int .i64 n.depth, .int .i64 n.op, .string n.desc, .string n.value, .string n.ini, .slice A k c, .string n.fin, .string n.rule, .bool n.dn] 27) (.cells #[.int .i64 ln, .string nm, .slice KA kn kc, .slice B m mc] 30))
  have HN := hid (show ItemAt ((w.alloc (.cells #[.int .i64 n.depth, .int .i64 n.op, .string n.desc, .string n.value, .string n.ini, .slice A k c, .string n.fin, .string n.rule, .bool n.dn] 27)).alloc (.cells #[.int .i64 ln, .string nm, .slice KA kn kc, .slice B m mc] 30)) w.heap.size n A k c ln nm KA kn kc B m mc from ⟨heap_alloc2_old _ _ _, heap_alloc2_new _ _ _⟩)
  rw [nodeF]
  obtain ⟨o3, o4, o5, o6, o8, o9⟩ := hop
  have e3 : (n.op == 3) = false := by simpa using o3
  have e4 : (n.op == 4) = false := by simpa using o4
  have e5 : (n.op == 5) = false := by simpa using o5
  have e6 : (n.op == 6) = false := by simpa using o6
  have e8 : (n.op == 8) = false := by simpa using o8
  have e9 : (n.op == 9) = false := by simpa using o9
  by_cases hz : synS n.desc = 0
  · have ez : (synS n.desc == 0) = true := by simpa using hz
    have HZ := hid (show (if synS n.desc = 0 ∨ n.op ≠ 7 then (1 : Int) else truthI (hasS n.desc L)) = 1 from if_pos (.inl hz))
    rw [HZ.out]
    clear hk hr hsc o3 o4 o5 o6 o8 o9 hz
    go_enter Tryz.func8, Tryz.ntmps8
    go_wp2_with (fail)
    go_must (refine (rsyntax_any _ _ hs (HK.out.below (Nat.le_refl _) HB.out)).mono ?_)
    rintro e w1 ⟨rfl, hb1⟩
    go_wp2
    go_ret
    exact ⟨rfl, belowNext HB.out hb1⟩
  · have ez : (synS n.desc == 0) = false := by simpa using hz
    by_cases h7 : n.op = 7
    · have e7 : (n.op == 7) = true := by simpa using h7
      have HZ := hid (show (if synS n.desc = 0 ∨ n.op ≠ 7 then (1 : Int) else truthI (hasS n.desc L)) = truthI (hasS n.desc L) from if_neg (fun h => h.elim hz (fun h => h h7)))
      rw [HZ.out]
      clear hk hr hsc o3 o4 o5 o6 o8 o9 hz h7
      go_enter Tryz.func8, Tryz.ntmps8
      go_wp2_with (fail)
      go_must (refine (rsyntax_any _ _ hs (HK.out.below (Nat.le_refl _) HB.out)).mono ?_)
      rintro e w1 ⟨rfl, hb1⟩
      have HN1 := hid (ItemAt.up hb1 HN.out)
      have HB1 := hid (belowNext HB.out hb1)
      obtain ⟨n0, n1, n2, n3, n4, n5, n6, n7, n8, p0, p1, p2, p3⟩ := heldOf HN1.out
      clear hb1
      go_wp2_with (fail)
      go_must (refine (rvalues_any L n.desc nm ln KA B kn kc m mc _ (HR.out.up HB1.out) hn ht hs HS.out (HK.out.below (Nat.le_refl _) HB1.out)).mono ?_)
      rintro e w2 ⟨A2, n2', c2, rfl, hv, hb2⟩
      have HV := hid hv.symm
      have HN2 := hid (ItemAt.up hb2 HN1.out)
      have q1 : w2.cell? ⟨w.heap.size, 1, none⟩ = some (.int .i64 n.op) := blkCell HN2.out.1 1
      have HB2 := hid (belowNext HB1.out hb2)
      clear hv hb2 n0 n1 n2 n3 n4 n5 n6 n7 n8 p0 p1 p2 p3
      go_wp2_with (fail)
      go_must (refine (rof_any _ _).mono ?_)
      rintro e w3 ⟨rfl, rfl⟩
      rw [HV.out]
      go_wp2
      go_ret
      exact ⟨rfl, HB2.out⟩
    · have e7 : (n.op == 7) = false := by simpa using h7
      have HZ := hid (show (if synS n.desc = 0 ∨ n.op ≠ 7 then (1 : Int) else truthI (hasS n.desc L)) = 1 from if_pos (.inr h7))
      rw [HZ.out]
      clear hk hr hsc o3 o4 o5 o6 o8 o9 hz h7
      go_enter Tryz.func8, Tryz.ntmps8
      go_wp2_with (fail)
      go_must (refine (rsyntax_any _ _ hs (HK.out.below (Nat.le_refl _) HB.out)).mono ?_)
      rintro e w1 ⟨rfl, hb1⟩
      have HN1 := hid (ItemAt.up hb1 HN.out)
      have HB1 := hid (belowNext HB.out hb1)
      obtain ⟨n0, n1, n2, n3, n4, n5, n6, n7, n8, p0, p1, p2, p3⟩ := heldOf HN1.out
      clear hb1
      go_wp2_with (fail)
      go_must (refine (rvalues_any L n.desc nm ln KA B kn kc m mc _ (HR.out.up HB1.out) hn ht hs HS.out (HK.out.below (Nat.le_refl _) HB1.out)).mono ?_)
      rintro e w2 ⟨A2, n2', c2, rfl, hv, hb2⟩
      have HN2 := hid (ItemAt.up hb2 HN1.out)
      have q1 : w2.cell? ⟨w.heap.size, 1, none⟩ = some (.int .i64 n.op) := blkCell HN2.out.1 1
      have HB2 := hid (belowNext HB1.out hb2)
      clear hv hb2 n0 n1 n2 n3 n4 n5 n6 n7 n8 p0 p1 p2 p3
      go_wp2
      go_ret
      exact ⟨rfl, HB2.out⟩
end Go.Proofs.YtfojfohfhomhbaaGreatDoor
