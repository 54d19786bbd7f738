/- Walks: the law itself. Walks: EvalPresent. -/
import Derived.Test.YtfojfohfhomhbaaGreatDoorMl
import Derived.Test.YtfojfohfhomhbaaGreatDoorMq
namespace Go.Proofs.YtfojfohfhomhbaaGreatDoor
open Go.RowKit

theorem eitem_any (n : NodeD) (A : Option Addr) (k c : Nat) (L : List AttrD) (nm : ByteArray) (ln : Int) (KA B : Option Addr) (kn kc m mc : Nat) (w : World) (hs : n.desc.size ≤ 1099511) (hr : AttrsAt w w.heap.size B m L) (hn : m ≤ 1099511) (hsc : ∀ a ∈ L, a.canon.size ≤ 1099511) (hm : MaxAt w) (hop : notItem n.op) :
    Calls Tryz.prog 7 #[nodeV n A k c, .agg #[.int .i64 ln, .string nm, .slice KA kn kc, .slice B m mc]] w fun e w' => e = .returned (.int .i64 (if synS n.desc = 0 ∨ n.op ≠ 7 then 1 else truthI (hasS n.desc L))) ∧ Below w.heap.size w w' := by
  by_cases h : synS n.desc = 0 ∨ n.op ≠ 7
  · rw [if_pos h]; exact eitem_no n A k c L nm ln KA B kn kc m mc w hs hr hn hsc hm hop h
  · rw [if_neg h]
    exact eitem_yes n A k c L nm ln KA B kn kc m mc w hs hr hn hsc hm (fun h1 => h (.inl h1)) (Classical.byContradiction fun h1 => h (.inr h1))

theorem nodeWF (n : NodeD) (v : Value) : nodeW n v = .agg #[.int .i64 n.depth, .int .i64 n.op, .string n.desc, .string n.value, .string n.ini, v, .string n.fin, .string n.rule, .bool n.dn] := rfl
def NodeBox (w : World) (g : Nat) (n : NodeD) (v : Value) : Prop := w.heap[g]? = some (.cells #[.int .i64 n.depth, .int .i64 n.op, .string n.desc, .string n.value, .string n.ini, v, .string n.fin, .string n.rule, .bool n.dn] 27 (0, 0))
theorem NodeBox.up {w w' : World} {g : Nat} {n : NodeD} {v : Value} (h : NodeBox w g n v) (hb : Below w.heap.size w w') : NodeBox w' g n v := (hb.block _ (Array.getElem?_eq_some_iff.1 h).1).trans h
theorem NodeBox.facts {w : World} {g : Nat} {n : NodeD} {v : Value} (h : NodeBox w g n v) : w.cell? ⟨g, 0, none⟩ = some (.int .i64 n.depth) ∧ w.cell? ⟨g, 1, none⟩ = some (.int .i64 n.op) ∧ w.cell? ⟨g, 2, none⟩ = some (.string n.desc) ∧ w.cell? ⟨g, 3, none⟩ = some (.string n.value) ∧ w.cell? ⟨g, 4, none⟩ = some (.string n.ini) ∧ w.cell? ⟨g, 5, none⟩ = some v ∧ w.cell? ⟨g, 6, none⟩ = some (.string n.fin) ∧ w.cell? ⟨g, 7, none⟩ = some (.string n.rule) ∧ w.cell? ⟨g, 8, none⟩ = some (.bool n.dn) :=
  ⟨blkCell h 0, blkCell h 1, blkCell h 2, blkCell h 3, blkCell h 4, blkCell h 5, blkCell h 6, blkCell h 7, blkCell h 8⟩
theorem EntBox.up {w w' : World} {g : Nat} {ln : Int} {nm : ByteArray} {u : Value} {A : Option Addr} {n c : Nat} (h : EntBox w g ln nm u A n c) (hb : Below w.heap.size w w') : EntBox w' g ln nm u A n c := (hb.block _ (Array.getElem?_eq_some_iff.1 h).1).trans h

set_option maxHeartbeats 16000000 in
set_option maxRecDepth 100000 in
theorem litem_any (n : NodeD) (AL : List ByteArray) (NA : Option Addr) (nk nc : Nat) (KL : List ByteArray) (L : List AttrD) (nm : ByteArray) (ln : Int) (KA A : Option Addr) (kn kc m mc : Nat) (w : World)
    (hnr : Rd w w.heap.size 1 NA nk (sv AL)) (hnc : SlOk NA nk nc) (hnk : nk ≤ 1099511) (hkr : Rd w w.heap.size 1 KA kn (sv KL)) (hkc : SlOk KA kn kc) (hkn : kn ≤ 1099511) (hr : AttrsAt w w.heap.size A m L) (hm : m ≤ 1099511) (hv : ∀ a ∈ L, a.vals.length ≤ 1099511) (ht : totV L ≤ 1099511)
    (hs : n.desc.size ≤ 1099511) (hsc : ∀ a ∈ L, a.canon.size ≤ 1099511) (hop : notItem n.op) (hmx : MaxAt w) (hki : KindsAt w) :
    Calls Tryz.prog 4 #[nodeV n NA nk nc, .agg #[.int .i64 ln, .string nm, .slice KA kn kc, .slice A m mc]] w fun e w' => e = .returned (.bool true) ∧ Below w.heap.size w w' := by
  have hal : AL.length = nk := by have := hnr.1; simpa using this
  have hkl : KL.length = kn := by have := hkr.1; simpa using this
  have hll : L.length = m := hr.1
  have HNR := hid hnr
  have HNC := hid hnc
  have HKR := hid hkr
  have HKC := hid hkc
  have HR := hid hr
  have HV := hid hv
  have HSC := hid hsc
  have HOP := hid hop
  have HMX := hid hmx
  have HKI := hid hki
  have HAL := hid hal
  have HKL := hid hkl
  have HLL := hid hll
  obtain ⟨res, hres⟩ : ∃ res : Int, res = (if synS n.desc = 0 ∨ n.op ≠ 7 then 1 else truthI (hasS n.desc L)) := ⟨_, rfl⟩
  have HRES := hid hres
  clear hnr hnc hkr hkc hr hv hsc hop hmx hki hal hkl hll hres
  rw [nodeF]
  have HW0 := hid (below2 w (.cells #[.int .i64 n.depth, .int .i64 n.op, .string n.desc, .string n.value, .string n.ini, .slice NA nk nc, .string n.fin, .string n.rule, .bool n.dn] 27) (.cells #[.int .i64 ln, .string nm, .slice KA kn kc, .slice A m mc] 30))
  have HN0 := hid (show NodeBox ((w.alloc (.cells #[.int .i64 n.depth, .int .i64 n.op, .string n.desc, .string n.value, .string n.ini, .slice NA nk nc, .string n.fin, .string n.rule, .bool n.dn] 27)).alloc (.cells #[.int .i64 ln, .string nm, .slice KA kn kc, .slice A m mc] 30)) w.heap.size n (.slice NA nk nc) from heap_alloc2_old _ _ _)
  have HE0 := hid (show EntBox ((w.alloc (.cells #[.int .i64 n.depth, .int .i64 n.op, .string n.desc, .string n.value, .string n.ini, .slice NA nk nc, .string n.fin, .string n.rule, .bool n.dn] 27)).alloc (.cells #[.int .i64 ln, .string nm, .slice KA kn kc, .slice A m mc] 30)) (w.heap.size + 1) ln nm (.slice KA kn kc) A m mc from heap_alloc2_new _ _ _)
  go_enter Tryz.func4, Tryz.ntmps4
  go_wp2_with (fail)
  -- the node's copy
  go_must (refine (copynode_any n AL NA nk nc _ (HNR.out.up HW0.out) HNC.out hnk).mono ?_)
  rintro e w1 ⟨v, rfl, hv1, hb1⟩
  obtain ⟨ng, nc2, rfl, _, hnc2, _, hnr1, _⟩ := hv1.form
  rw [HAL.out] at hv1 hnr1 ⊢
  have HSL := hid (show SlOk (some ⟨ng, 0, none⟩) nk nc2 from ⟨by have := HAL.out; omega, fun e => by cases e⟩)
  have HW1 := hid ((belowNext HW0.out hb1).alloc (belowNext HW0.out hb1).size (.cells #[.int .i64 n.depth, .int .i64 n.op, .string n.desc, .string n.value, .string n.ini, .slice (some ⟨ng, 0, none⟩) nk nc2, .string n.fin, .string n.rule, .bool n.dn] 27))
  have HN0a := hid ((HN0.out.up hb1).up (below1 w1 (.cells #[.int .i64 n.depth, .int .i64 n.op, .string n.desc, .string n.value, .string n.ini, .slice (some ⟨ng, 0, none⟩) nk nc2, .string n.fin, .string n.rule, .bool n.dn] 27)))
  have HE0a := hid ((HE0.out.up hb1).up (below1 w1 (.cells #[.int .i64 n.depth, .int .i64 n.op, .string n.desc, .string n.value, .string n.ini, .slice (some ⟨ng, 0, none⟩) nk nc2, .string n.fin, .string n.rule, .bool n.dn] 27)))
  have HN1a := hid (show NodeBox (w1.alloc (.cells #[.int .i64 n.depth, .int .i64 n.op, .string n.desc, .string n.value, .string n.ini, .slice (some ⟨ng, 0, none⟩) nk nc2, .string n.fin, .string n.rule, .bool n.dn] 27)) w1.heap.size n (.slice (some ⟨ng, 0, none⟩) nk nc2) from heap_alloc_new _ _)
  have HRM := hid (hv1.below (below1 w1 (.cells #[.int .i64 n.depth, .int .i64 n.op, .string n.desc, .string n.value, .string n.ini, .slice (some ⟨ng, 0, none⟩) nk nc2, .string n.fin, .string n.rule, .bool n.dn] 27)))
  have HNR1 := hid (hnr1.up (below1 w1 (.cells #[.int .i64 n.depth, .int .i64 n.op, .string n.desc, .string n.value, .string n.ini, .slice (some ⟨ng, 0, none⟩) nk nc2, .string n.fin, .string n.rule, .bool n.dn] 27)))
  obtain ⟨e0, e1, e2, e3, _, _⟩ := HE0a.out.facts
  clear hb1 hv1 hnr1 hnc2
  rw [nodeWF]
  go_wp2_with (fail)
  -- the entry's copy
  go_must (refine (copyentry_any KL L nm ln KA A kn kc m mc _ (HKR.out.up HW1.out) HKC.out hkn (HR.out.up HW1.out) hm HV.out).mono ?_)
  rintro e w2 ⟨ku, au, rfl, hcp, hb2⟩
  obtain ⟨kg, kc2, ag, mc2, rfl, rfl, _, _, har, _, _, _, _⟩ := hcp.form
  rw [HKL.out, HLL.out] at hcp ⊢
  rw [HLL.out] at har
  have HW2 := hid ((belowNext HW1.out hb2).alloc (belowNext HW1.out hb2).size (.cells #[.int .i64 ln, .string nm, .slice (some ⟨kg, 0, none⟩) kn kc2, .slice (some ⟨ag, 0, none⟩) m mc2] 30))
  have HN0b := hid ((HN0a.out.up hb2).up (below1 w2 (.cells #[.int .i64 ln, .string nm, .slice (some ⟨kg, 0, none⟩) kn kc2, .slice (some ⟨ag, 0, none⟩) m mc2] 30)))
  have HE0b := hid ((HE0a.out.up hb2).up (below1 w2 (.cells #[.int .i64 ln, .string nm, .slice (some ⟨kg, 0, none⟩) kn kc2, .slice (some ⟨ag, 0, none⟩) m mc2] 30)))
  have HN1b := hid ((HN1a.out.up hb2).up (below1 w2 (.cells #[.int .i64 ln, .string nm, .slice (some ⟨kg, 0, none⟩) kn kc2, .slice (some ⟨ag, 0, none⟩) m mc2] 30)))
  have HE1b := hid (show EntBox (w2.alloc (.cells #[.int .i64 ln, .string nm, .slice (some ⟨kg, 0, none⟩) kn kc2, .slice (some ⟨ag, 0, none⟩) m mc2] 30)) w2.heap.size ln nm (.slice (some ⟨kg, 0, none⟩) kn kc2) (some ⟨ag, 0, none⟩) m mc2 from heap_alloc_new _ _)
  have HRMb := hid ((HRM.out.below hb2).below (below1 w2 (.cells #[.int .i64 ln, .string nm, .slice (some ⟨kg, 0, none⟩) kn kc2, .slice (some ⟨ag, 0, none⟩) m mc2] 30)))
  have HNR2 := hid ((HNR1.out.up hb2).up (below1 w2 (.cells #[.int .i64 ln, .string nm, .slice (some ⟨kg, 0, none⟩) kn kc2, .slice (some ⟨ag, 0, none⟩) m mc2] 30)))
  have HCP := hid (hcp.below (below1 w2 (.cells #[.int .i64 ln, .string nm, .slice (some ⟨kg, 0, none⟩) kn kc2, .slice (some ⟨ag, 0, none⟩) m mc2] 30)))
  have HAR := hid (har.up (below1 w2 (.cells #[.int .i64 ln, .string nm, .slice (some ⟨kg, 0, none⟩) kn kc2, .slice (some ⟨ag, 0, none⟩) m mc2] 30)))
  obtain ⟨n0, n1, n2, n3, n4, n5, n6, n7, n8⟩ := HN1b.out.facts
  clear hb2 hcp har e0 e1 e2 e3
  go_wp2_with (fail)
  -- the program's answer
  go_must (refine (eitem_any n (some ⟨ng, 0, none⟩) nk nc2 L nm ln (some ⟨kg, 0, none⟩) (some ⟨ag, 0, none⟩) kn kc2 m mc2 _ hs HAR.out hm HSC.out (HMX.out.below (Nat.le_refl _) HW2.out) HOP.out).mono ?_)
  rintro e w3 ⟨rfl, hb3⟩
  rw [← HRES.out]
  have HW3 := hid (belowNext HW2.out hb3)
  have HN0c := hid (HN0b.out.up hb3)
  have HE0c := hid (HE0b.out.up hb3)
  have HN1c := hid (HN1b.out.up hb3)
  have HE1c := hid (HE1b.out.up hb3)
  have HRMc := hid (HRMb.out.below hb3)
  have HNR3 := hid (HNR2.out.up hb3)
  have HCPc := hid (HCP.out.below hb3)
  clear hb3 n0 n1 n2 n3 n4 n5 n6 n7 n8
  obtain ⟨n0, n1, n2, n3, n4, n5, n6, n7, n8⟩ := HN0c.out.facts
  obtain ⟨e0, e1, e2, e3, _, _⟩ := HE0c.out.facts
  go_wp2_with (fail)
  -- the document's answer
  go_must (refine (ritem_any n NA nk nc L nm ln KA A kn kc m mc _ hs (HR.out.up HW3.out) hm ht HSC.out (HKI.out.below (Nat.le_refl _) HW3.out) HOP.out).mono ?_)
  rintro e w4 ⟨rfl, hb4⟩
  rw [← HRES.out]
  have HW4 := hid (belowNext HW3.out hb4)
  have HN0d := hid (HN0c.out.up hb4)
  have HE0d := hid (HE0c.out.up hb4)
  have HN1d := hid (HN1c.out.up hb4)
  have HE1d := hid (HE1c.out.up hb4)
  have HRMd := hid (HRMc.out.below hb4)
  have HNR4 := hid (HNR3.out.up hb4)
  have HCPd := hid (HCPc.out.below hb4)
  clear hb4 n0 n1 n2 n3 n4 n5 n6 n7 n8 e0 e1 e2 e3
  obtain ⟨n0, n1, n2, n3, n4, n5, n6, n7, n8⟩ := HN0d.out.facts
  obtain ⟨m0, m1, m2, m3, m4, m5, m6, m7, m8⟩ := HN1d.out.facts
  go_wp2_with (fail)
  -- the node is as it was
  go_must (refine (samenode_any n AL (some ⟨ng, 0, none⟩) NA nk nc2 nc _ _ _ HNR4.out (HNR.out.up HW4.out) (Nat.le_refl _) (Nat.le_refl _) hnk).mono ?_)
  rintro e w5 ⟨rfl, hb5⟩
  have HW5 := hid (belowNext HW4.out hb5)
  have HE0e := hid (HE0d.out.up hb5)
  have HE1e := hid (HE1d.out.up hb5)
  have HRMe := hid (HRMd.out.below hb5)
  have HCPe := hid (HCPd.out.below hb5)
  have p5 := (HN1d.out.up hb5).facts.2.2.2.2.2.1
  obtain ⟨e0, e1, e2, e3, _, _⟩ := HE0e.out.facts
  obtain ⟨f0, f1, f2, f3, _, _⟩ := HE1e.out.facts
  clear hb5 n0 n1 n2 n3 n4 n5 n6 n7 n8 m0 m1 m2 m3 m4 m5 m6 m7 m8
  have hall : AL.length ≤ 1099511 := by have := HAL.out; omega
  go_wp2_with (first
    | (go_at_call 10; go_must (refine (spared_any AL _ _ _ HRMe.out hall).mono ?_); rintro e w6 ⟨rfl, rfl⟩)
    | (go_at_call 11; go_must (refine (entryspared_any KL L nm ln _ _ _ KA A kn kc m mc _ HCPe.out (HKR.out.up HW5.out) hkn (HR.out.up HW5.out) hm HV.out).mono ?_); rintro e w7 ⟨rfl, hb7⟩))
  go_ret
  exact ⟨rfl, belowNext HW5.out hb7⟩
end Go.Proofs.YtfojfohfhomhbaaGreatDoor

namespace Go.Proofs.YtfojfohfhomhbaaGreatDoor
open Go.RowKit

set_option maxHeartbeats 16000000 in
set_option maxRecDepth 100000 in
theorem law_any (n : NodeD) (AL : List ByteArray) (NA : Option Addr) (nk nc : Nat) (KL : List ByteArray) (L : List AttrD) (nm : ByteArray) (ln : Int) (KA A : Option Addr) (kn kc m mc : Nat) (w : World)
    (hnr : Rd w w.heap.size 1 NA nk (sv AL)) (hnc : SlOk NA nk nc) (hnk : nk ≤ 1099511) (hkr : Rd w w.heap.size 1 KA kn (sv KL)) (hkc : SlOk KA kn kc) (hkn : kn ≤ 1099511) (hr : AttrsAt w w.heap.size A m L) (hm : m ≤ 1099511) (hv : ∀ a ∈ L, a.vals.length ≤ 1099511) (ht : totV L ≤ 1099511)
    (hs : n.desc.size ≤ 1099511) (hsc : ∀ a ∈ L, a.canon.size ≤ 1099511) (hmx : MaxAt w) (hki : KindsAt w) :
    Calls Tryz.prog 3 #[nodeV n NA nk nc, .agg #[.int .i64 ln, .string nm, .slice KA kn kc, .slice A m mc]] w fun e w' => e = .returned (.bool true) ∧ Below w.heap.size w w' := by
  have HNR := hid hnr
  have HNC := hid hnc
  have HKR := hid hkr
  have HKC := hid hkc
  have HR := hid hr
  have HV := hid hv
  have HSC := hid hsc
  have HMX := hid hmx
  have HKI := hid hki
  have HW := hid (below2 w (.cells #[.int .i64 n.depth, .int .i64 n.op, .string n.desc, .string n.value, .string n.ini, .slice NA nk nc, .string n.fin, .string n.rule, .bool n.dn] 27) (.cells #[.int .i64 ln, .string nm, .slice KA kn kc, .slice A m mc] 30))
  clear hnr hnc hkr hkc hr hv hsc hmx hki
  by_cases h : 3 ≤ n.op ∧ n.op ≤ 9 ∧ n.op ≠ 7
  · obtain ⟨h3, h9, h7⟩ := h
    have d3 : decide ((3 : Int) ≤ n.op) = true := by simpa using h3
    have d9 : decide (n.op ≤ 9) = true := by simpa using h9
    have d7 : (n.op == 7) = false := by simpa using h7
    have e3 : ¬ n.op < 3 := by omega
    have e9 : ¬ 9 < n.op := by omega
    have H7 := hid h7
    clear h7
    rw [nodeF]
    go_enter Tryz.func3, Tryz.ntmps3
    go_wp2_with (fail)
    have HW7 := hid (below2 w (.cells #[.int .i64 n.depth, .int .i64 7, .string n.desc, .string n.value, .string n.ini, .slice NA nk nc, .string n.fin, .string n.rule, .bool n.dn] 27) (.cells #[.int .i64 ln, .string nm, .slice KA kn kc, .slice A m mc] 30))
    go_must (refine (litem_any { n with op := 7 } AL NA nk nc KL L nm ln KA A kn kc m mc _ (HNR.out.up HW7.out) HNC.out hnk (HKR.out.up HW7.out) HKC.out hkn (HR.out.up HW7.out) hm HV.out ht hs HSC.out (show notItem 7 by unfold notItem; decide) (HMX.out.below (Nat.le_refl _) HW7.out) (HKI.out.below (Nat.le_refl _) HW7.out)).mono ?_)
    rintro e w1 ⟨rfl, hb1⟩
    have HB := hid (belowNext HW7.out hb1)
    clear hb1
    go_wp2
    go_ret
    exact ⟨rfl, HB.out⟩
  · have HNI := hid (show notItem n.op by unfold notItem; omega)
    have HH := hid h
    clear h
    by_cases h3 : 3 ≤ n.op
    · by_cases h9 : n.op ≤ 9
      · have h7 : n.op = 7 := by have := HH.out; omega
        have d7 : (n.op == 7) = true := by simpa using h7
        have d3 : decide ((3 : Int) ≤ n.op) = true := by simpa using h3
        have d9 : decide (n.op ≤ 9) = true := by simpa using h9
        have e3 : ¬ n.op < 3 := by omega
        have e9 : ¬ 9 < n.op := by omega
        clear h7
        rw [nodeF]
        go_enter Tryz.func3, Tryz.ntmps3
        go_wp2_with (fail)
        go_must (refine (litem_any n AL NA nk nc KL L nm ln KA A kn kc m mc _ (HNR.out.up HW.out) HNC.out hnk (HKR.out.up HW.out) HKC.out hkn (HR.out.up HW.out) hm HV.out ht hs HSC.out HNI.out (HMX.out.below (Nat.le_refl _) HW.out) (HKI.out.below (Nat.le_refl _) HW.out)).mono ?_)
        rintro e w1 ⟨rfl, hb1⟩
        have HB := hid (belowNext HW.out hb1)
        clear hb1
        go_wp2
        go_ret
        exact ⟨rfl, HB.out⟩
      · have d3 : decide ((3 : Int) ≤ n.op) = true := by simpa using h3
        have d9 : decide (n.op ≤ 9) = false := by simpa using h9
        have e3 : ¬ n.op < 3 := by omega
        have e9 : 9 < n.op := by omega
        rw [nodeF]
        go_enter Tryz.func3, Tryz.ntmps3
        go_wp2_with (fail)
        go_must (refine (litem_any n AL NA nk nc KL L nm ln KA A kn kc m mc _ (HNR.out.up HW.out) HNC.out hnk (HKR.out.up HW.out) HKC.out hkn (HR.out.up HW.out) hm HV.out ht hs HSC.out HNI.out (HMX.out.below (Nat.le_refl _) HW.out) (HKI.out.below (Nat.le_refl _) HW.out)).mono ?_)
        rintro e w1 ⟨rfl, hb1⟩
        have HB := hid (belowNext HW.out hb1)
        clear hb1
        go_wp2
        go_ret
        exact ⟨rfl, HB.out⟩
    · have d3 : decide ((3 : Int) ≤ n.op) = false := by simpa using h3
      have e3 : n.op < 3 := by omega
      rw [nodeF]
      go_enter Tryz.func3, Tryz.ntmps3
      go_wp2_with (fail)
      go_must (refine (litem_any n AL NA nk nc KL L nm ln KA A kn kc m mc _ (HNR.out.up HW.out) HNC.out hnk (HKR.out.up HW.out) HKC.out hkn (HR.out.up HW.out) hm HV.out ht hs HSC.out HNI.out (HMX.out.below (Nat.le_refl _) HW.out) (HKI.out.below (Nat.le_refl _) HW.out)).mono ?_)
      rintro e w1 ⟨rfl, hb1⟩
      have HB := hid (belowNext HW.out hb1)
      clear hb1
      go_wp2
      go_ret
      exact ⟨rfl, HB.out⟩
end Go.Proofs.YtfojfohfhomhbaaGreatDoor
