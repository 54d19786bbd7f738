/- Walks: the reference's Covers. Walks: the syntax of a description, the reference's way. Walks: the reference's Values, of, Item. -/
import Derived.Test.YtfojfohfhomhbaaGreatDoorMo
import Derived.Test.YtfojfohfhomhbaaGreatDoorMm
import Derived.Test.YtfojfohfhomhbaaGreatDoorMi
import Derived.Deep.DeepMust
import Derived.Test.YtfojfohfhomhbaaGreatDoorMb
namespace Go.Proofs.YtfojfohfhomhbaaGreatDoor
open Go.RowKit

theorem rescUp {w w' : World} {g : Nat} {a b : Value} (hb : Below w.heap.size w w') (h : DescAt w g a b) : DescAt w' g a b := h.up hb
set_option maxHeartbeats 4000000 in
set_option maxRecDepth 100000 in
theorem rcovers_d (d e : ByteArray) (w : World) (hsd : d.size ≤ 1099511) (hse : e.size ≤ 1099511) (hd : descB d = false) : Calls Tryz.prog 47 #[.string d, .string e] w fun en w' => en = .returned (.bool (coversB d e)) ∧ Below w.heap.size w w' := by
  have HC := hid (cov_d (e := e) hd)
  have HD := hid hd
  clear hd
  go_enter Tryz.func47, Tryz.ntmps47
  go_wp2_with (fail)
  refine (rparse_no d _ hsd HD.out).mono ?_
  rintro en w1 ⟨p, rfl, hb1⟩
  have HB1 := hid (hb1.alloc hb1.size (.cells #[.string ⟨#[]⟩, .slice none 0 0] 75))
  clear hb1
  cases he : descB e with
  | false =>
    have HE := hid he
    clear he
    go_wp2_with (fail)
    refine (rparse_no e _ hse HE.out).mono ?_
    rintro en w2 ⟨p2, rfl, hb2⟩
    have HB2 := hid (belowNext HB1.out hb2)
    clear hb2
    go_wp2_with (fail)
    go_ret
    exact retB2 HC.out.symm (HB2.out.alloc HB2.out.size _)
  | true =>
    have HE := hid he
    clear he
    go_wp2_with (fail)
    refine (rparse_yes e _ hse HE.out).mono ?_
    rintro en w2 ⟨A2, n2, c2, O2, p2, rfl, _, _, _, _, hb2⟩
    have HB2 := hid (belowNext HB1.out hb2)
    clear hb2
    go_wp2_with (fail)
    go_ret
    exact retB2 HC.out.symm (HB2.out.alloc HB2.out.size _)

set_option maxHeartbeats 4000000 in
set_option maxRecDepth 100000 in
theorem rcovers_e (d e : ByteArray) (w : World) (hsd : d.size ≤ 1099511) (hse : e.size ≤ 1099511) (hd : descB d = true) (he : descB e = false) : Calls Tryz.prog 47 #[.string d, .string e] w fun en w' => en = .returned (.bool (coversB d e)) ∧ Below w.heap.size w w' := by
  have HC := hid (cov_e (d := d) he)
  have HD := hid hd
  have HE := hid he
  clear hd he
  go_enter Tryz.func47, Tryz.ntmps47
  go_wp2_with (fail)
  refine (rparse_yes d _ hsd HD.out).mono ?_
  rintro en w1 ⟨A1, n1, c1, O1, p, rfl, _, _, _, _, hb1⟩
  have HB1 := hid (hb1.alloc hb1.size (.cells #[.string (canonS (headS d)), .slice A1 n1 c1] 75))
  clear hb1
  go_wp2_with (fail)
  refine (rparse_no e _ hse HE.out).mono ?_
  rintro en w2 ⟨p2, rfl, hb2⟩
  have HB2 := hid (belowNext HB1.out hb2)
  clear hb2
  go_wp2_with (fail)
  go_ret
  exact retB2 HC.out.symm (HB2.out.alloc HB2.out.size _)

set_option maxHeartbeats 8000000 in
set_option maxRecDepth 100000 in
theorem rcovers_yes (d e : ByteArray) (w : World) (hsd : d.size ≤ 1099511) (hse : e.size ≤ 1099511) (hk : KindsAt w) (hd : descB d = true) (he : descB e = true) : Calls Tryz.prog 47 #[.string d, .string e] w fun en w' => en = .returned (.bool (coversB d e)) ∧ Below w.heap.size w w' := by
  have HD := hid hd
  have HE := hid he
  have HK := hid hk
  clear hd he hk
  have hcs : (canonS (headS e)).size ≤ 1099511627776 := canon_le _ _ (by have := head_le e; omega) (by omega)
  have hsl := supers_len (canonS (headS e))
  go_enter Tryz.func47, Tryz.ntmps47
  go_wp2_with (fail)
  refine (rparse_yes d _ hsd HD.out).mono ?_
  rintro en w1 ⟨A1, n1, c1, O1, p, rfl, hn1, hr1, hm1, hri1, hb1⟩
  have HB1 := hid (hb1.alloc hb1.size (.cells #[.string (canonS (headS d)), .slice A1 n1 c1] 75))
  have HX1 := hid (show DescAt (w1.alloc (.cells #[.string (canonS (headS d)), .slice A1 n1 c1] 75)) w1.heap.size _ _ from heap_alloc_new _ _)
  have HR1 := hid (hr1.up (below1 w1 (.cells #[.string (canonS (headS d)), .slice A1 n1 c1] 75)))
  have HM1 := hid hm1
  have HI1 := hid hri1
  clear hb1 hr1 hm1 hri1
  go_wp2_with (fail)
  refine (rparse_yes e _ hse HE.out).mono ?_
  rintro en w2 ⟨A2, n2, c2, O2, p2, rfl, hn2, hr2, hm2, hri2, hb2⟩
  have HB2 := hid ((belowNext HB1.out hb2).alloc (belowNext HB1.out hb2).size (.cells #[.string (canonS (headS e)), .slice A2 n2 c2] 75))
  have HX2 := hid (HX1.out.up hb2)
  have HR12 := hid ((HR1.out.up hb2).up (below1 w2 (.cells #[.string (canonS (headS e)), .slice A2 n2 c2] 75)))
  have HR2 := hid (hr2.up (below1 w2 (.cells #[.string (canonS (headS e)), .slice A2 n2 c2] 75)))
  have HM2 := hid hm2
  have HI2 := hid hri2
  have hx1 : w1.heap.size < w2.heap.size := (Array.getElem?_eq_some_iff.1 HX2.out).1
  have HY := hid (show DescAt (w2.alloc (.cells #[.string (canonS (headS e)), .slice A2 n2 c2] 75)) w2.heap.size _ _ from heap_alloc_new _ _)
  have HX3 := hid (HX2.out.up (below1 w2 (.cells #[.string (canonS (headS e)), .slice A2 n2 c2] 75)))
  obtain ⟨x0, x1, _, _⟩ := HX2.out.facts
  clear hb2 hr2 hm2 hri2
  go_wp2_with (fail)
  go_must (refine (rsupers_any _ _ hcs (HK.out.below (Nat.le_refl _) HB2.out)).mono ?_)
  rintro en w3 ⟨A3, c3, rfl, hc3, hr3, hb3⟩
  have HX4 := hid (HX3.out.up hb3)
  have HY4 := hid (HY.out.up hb3)
  have RX := hid (HR12.out.up hb3)
  have RY := hid (HR2.out.up hb3)
  have R3 := hid hr3
  have HB3 := hid (belowNext HB2.out hb3)
  obtain ⟨y0, y1, _, _⟩ := HX4.out.facts
  obtain ⟨y2, y3, _, _⟩ := HY4.out.facts
  clear hb3 hr3 x0 x1
  cases hmb : memB (supersS (canonS (headS e))) (canonS (headS d)) with
  | false =>
    have HC := hid (cov_m hmb)
    go_wp2_with (go_at_call 97; refine (in_any (supersS (canonS (headS e))) _ _ _ _ _ _ R3.out (by omega)).mono ?_; rintro en w4 ⟨rfl, rfl⟩)
    go_ret
    exact retB2 HC.out.symm HB3.out
  | true =>
    have HI := hid (cov_iff HD.out HE.out hmb HM1.out HM2.out)
    go_wp2_with (first
      | (go_at_call 97; refine (in_any (supersS (canonS (headS e))) _ _ _ _ _ _ R3.out (by omega)).mono ?_; rintro en w4 ⟨rfl, rfl⟩)
      | (go_at_call 98; go_must (refine (within_any O1 O2 _ _ _ _ _ _ _ _ _ RX.out RY.out HI1.out HI2.out (by omega) (by omega)).mono ?_); rintro en w5 ⟨r, rfl, hri, q, hw5⟩))
    go_ret
    exact retB2 (by rw [Bool.eq_iff_iff, HI.out]; exact hri) (belowN HB3.out q)

theorem rcovers_any (d e : ByteArray) (w : World) (hsd : d.size ≤ 1099511) (hse : e.size ≤ 1099511) (hk : KindsAt w) : Calls Tryz.prog 47 #[.string d, .string e] w fun en w' => en = .returned (.bool (coversB d e)) ∧ Below w.heap.size w w' := by
  cases hd : descB d with
  | false => exact rcovers_d d e w hsd hse hd
  | true =>
    cases he : descB e with
    | false => exact rcovers_e d e w hsd hse hd he
    | true => exact rcovers_yes d e w hsd hse hk hd he
end Go.Proofs.YtfojfohfhomhbaaGreatDoor

namespace Go.Proofs.YtfojfohfhomhbaaGreatDoor
open Go.RowKit

set_option maxHeartbeats 1600000 in
set_option maxRecDepth 100000 in
theorem rsyntax_any (s : ByteArray) (w : World) (hs : s.size ≤ 1099511) (hk : KindsAt w) : Calls Tryz.prog 15 #[.string s] w fun e w' => e = .returned (.int .i64 (synS s)) ∧ Below w.heap.size w w' := by
  have HK := hid hk
  clear hk
  go_enter Tryz.func15, Tryz.ntmps15
  cases hd : descB s with
  | false =>
    have H := hid (syn_no hd)
    have HD := hid hd
    clear hd
    go_wp2_with (go_at_call 45; refine (rparse_no _ _ hs HD.out).mono ?_; rintro e w1 ⟨p, rfl, hb1⟩)
    go_ret
    exact retI2 H.out.symm (hb1.alloc hb1.size _)
  | true =>
    have HD := hid hd
    clear hd
    have hd1 := descTyp
    have hcs : (canonS (headS s)).size ≤ 1099511627776 := canon_le _ _ (by have := head_le s; omega) (by omega)
    have hcf := canon_fold (headS s)
    cases h : find4 (canonS (headS s)) with
    | none =>
      have hi : rowI (find4 (foldS (canonS (headS s)))) = -1 := by rw [hcf, h]; rfl
      have H := hid (syn_none HD.out h)
      clear h hcf
      go_wp2_with (first
        | (go_at_call 45; refine (rparse_yes _ _ hs HD.out).mono ?_; rintro e w1 ⟨A, n, c, O, p, rfl, _, _, _, _, hb1⟩)
        | (go_at_call 46; refine (row_any _ _ hcs).mono ?_; rintro e w2 ⟨rfl, hb2⟩))
      go_ret
      exact retI2 H.out.symm (belowNext (hb1.alloc hb1.size _) hb2)
    | some i =>
      have hi : rowI (find4 (foldS (canonS (headS s)))) = (i : Int) := by rw [hcf, h]; rfl
      have H := hid (syn_some HD.out h)
      have hlt := find4_lt h
      clear h hcf
      go_wp2_with (first
        | (go_at_call 45; refine (rparse_yes _ _ hs HD.out).mono ?_; rintro e w1 ⟨A, n, c, O, p, rfl, _, _, _, _, hb1⟩)
        | (go_at_call 46; refine (row_any _ _ hcs).mono ?_; rintro e w2 ⟨rfl, hb2⟩
           have HB := hid (belowNext (hb1.alloc hb1.size _) hb2)
           have hk2 := ((HK.out.below (Nat.le_refl _) HB.out).2 i hlt).2.1
           clear hb1 hb2))
      go_ret
      exact retI2 H.out.symm HB.out
end Go.Proofs.YtfojfohfhomhbaaGreatDoor

namespace Go.Proofs.YtfojfohfhomhbaaGreatDoor
open Go.RowKit

def ValPost (d : ByteArray) (L : List AttrD) (w : World) (e : Ending) (w' : World) : Prop := ∃ (A : Option Addr) (n c : Nat), e = .returned (.slice A n c) ∧ hasS d L = decide (0 < n) ∧ Below w.heap.size w w'
theorem stepHit {d : ByteArray} {L : List AttrD} {k n m : Nat} {a : AttrD} (hk : k < L.length) (ha : a = L[k]) (h : hasS d (L.take k) = decide (0 < n)) (hv : a.vals.length = m) (hc : coversB d a.canon = true) : hasS d (L.take (k + 1)) = decide (0 < n + m) := by
  rw [hasS_step hk, h, ← ha, hc, Bool.and_true]
  have e : (!a.vals.isEmpty) = decide (0 < m) := by rw [← hv]; cases a.vals <;> simp
  rw [e, Bool.eq_iff_iff]
  simp; omega
theorem stepMiss {d : ByteArray} {L : List AttrD} {k n : Nat} {a : AttrD} (hk : k < L.length) (ha : a = L[k]) (h : hasS d (L.take k) = decide (0 < n)) (hc : coversB d a.canon = false) : hasS d (L.take (k + 1)) = decide (0 < n) := by
  rw [hasS_step hk, h, ← ha, hc, Bool.and_false, Bool.or_false]
set_option maxHeartbeats 4000000 in
set_option maxRecDepth 100000 in
theorem rvalues_any (L : List AttrD) (d nm : ByteArray) (ln : Int) (KA A : Option Addr) (kn kc n c : Nat) (w : World) (hr : AttrsAt w w.heap.size A n L) (hn : n ≤ 1099511) (ht : totV L ≤ 1099511) (hsd : d.size ≤ 1099511) (hsc : ∀ a ∈ L, a.canon.size ≤ 1099511) (hk : KindsAt w) :
    Calls Tryz.prog 16 #[.agg #[.int .i64 ln, .string nm, .slice KA kn kc, .slice A n c], .string d] w (ValPost d L w) := by
  have HK := hid hk
  have HR := hid hr
  have HS := hid hsc
  have hl : L.length = n := hr.1
  have HE := hid (heap_alloc_new w (.cells #[.int .i64 ln, .string nm, .slice KA kn kc, .slice A n c] 30))
  have HB0 := hid (below1 w (.cells #[.int .i64 ln, .string nm, .slice KA kn kc, .slice A n c] 30))
  clear hk hr hsc
  go_enter Tryz.func16, Tryz.ntmps16
  go_wp2
  go_loopw [5, 6, 7] (fun l i _ wr => ∃ (k n1 : Nat) (xs : List Value), k ≤ n ∧ i = .int .i64 k ∧ wr.ownsRow (w.heap.size + 1) 9 1 l n1 xs ∧ n1 ≤ totV (L.take k) ∧ Hid (hasS d (L.take k) = decide (0 < n1)) ∧ Hid (Below w.heap.size w wr) ∧
      Hid (wr.heap[w.heap.size]? = some (.cells #[.int .i64 ln, .string nm, .slice KA kn kc, .slice A n c] 30 (0, 0)))) (fun _ i _ _ => n - (intOf i).toNat)
  case atStart => exact ⟨0, 0, [], Nat.zero_le _, rfl, World.ownsRow_nil _ _ _ _, Nat.zero_le _, hid rfl, HB0, HE⟩
  case round =>
    clear HE HB0
    obtain ⟨k, n1, xs, hk, rfl, hown, hn1, H, HB, HE⟩ := hrel
    have hel := (Array.getElem?_eq_some_iff.1 HE.out).1
    have c3 : wr.cell? ⟨w.heap.size, 3, none⟩ = some (.slice A n c) := blkCell HE.out 3
    have htk := totV_take L k
    by_cases hlt : k < n
    · obtain ⟨ad, rfl, hadb, hka, hat⟩ := (HR.out.below HB.out).at hlt
      obtain ⟨_, h2, _⟩ := hat.forms
      obtain ⟨a, ha⟩ : ∃ a, a = L[k] := ⟨_, rfl⟩
      have hac := HS.out _ (List.getElem_mem hka)
      rw [← ha] at h2 hat hac
      have HA := hid ha
      have HT := hid hat
      have HTN := hid (totV_next hka)
      have htk1 := totV_take L (k + 1)
      clear ha hat
      cases hq : coversB d a.canon with
      | true =>
        have HQ := hid hq
        clear hq
        go_wp2_with (first
          | (go_at_call 47; go_must (refine (rcovers_any _ _ _ hsd hac (HK.out.below (Nat.le_refl _) HB.out)).mono ?_); rintro e w1 ⟨rfl, hb1⟩
             rw [HQ.out]
             have HAT := hid (HT.out.keep hadb (fun p hp => hb1.cell (Nat.lt_of_lt_of_le hp HB.out.size)))
             obtain ⟨_, _, B, m, cc, h3, h4, h5⟩ := HAT.out.forms
             have hown1 := ownsBelow hown hb1
             have HE1 := hid ((hb1.block _ hel).trans HE.out)
             have HB1 := hid (belowNext HB.out hb1)
             have hs1 := hb1.size
             have HH4 := hid h4
             have HH5 := hid h5
             have HV := hid (show a.vals.length = m by have := h5.1; simpa using this)
             have hm1 : n1 + m ≤ 1099511 := by have h6 := HTN.out; rw [← HA.out, HV.out] at h6; omega
             have c31 : w1.cell? ⟨w.heap.size, 3, none⟩ = some (.slice (some ad) n c) := blkCell HE1.out 3
             clear hb1 hown h4 h5)
          | (at_builtin; go_must (refine app3 rfl _ _ 23 rfl (w.heap.size + 1) 9 _ 1 16 Tryz.underlying23 info_str rfl (by decide) _ _ _ rfl hown1 B m cc _ (sv a.vals) rfl HH4.out HH5.out (sv_one _) (by omega) (by omega) (by omega) ?_)
             intro v2 w2 hown2 hb2
             have HE2 := hid ((hb2.block _ (by omega)).trans HE1.out)
             have HB2 := hid (HB1.out.trans (hb2.mono (by omega)))
             clear hb2 hown1))
        go_roundw
        case rel => exact ⟨k + 1, n1 + m, _, by omega, by go_num, hown2, by have h6 := HTN.out; rw [← HA.out, HV.out] at h6; omega, hid (stepHit hka HA.out H.out HV.out HQ.out), HB2, HE2⟩
        case measure => simp [intOf]; omega
      | false =>
        have HQ := hid hq
        clear hq
        go_wp2_with (go_at_call 47; go_must (refine (rcovers_any _ _ _ hsd hac (HK.out.below (Nat.le_refl _) HB.out)).mono ?_); rintro e w1 ⟨rfl, hb1⟩
                     rw [HQ.out]
                     have hown1 := ownsBelow hown hb1
                     have HE1 := hid ((hb1.block _ hel).trans HE.out)
                     have HB1 := hid (belowNext HB.out hb1)
                     clear hb1 hown)
        go_roundw
        case rel => exact ⟨k + 1, n1, _, by omega, by go_num, hown1, by have h6 := HTN.out; omega, hid (stepMiss hka HA.out H.out HQ.out), HB1, HE1⟩
        case measure => simp [intOf]; omega
    · have HF := hid (show hasS d L = decide (0 < n1) by have h6 := H.out; rwa [List.take_of_length_le (by omega)] at h6)
      obtain ⟨A2, c2, rfl, _⟩ := ownForm hown
      clear H hown
      go_wp2
      go_ret
      exact ⟨A2, n1, c2, rfl, HF.out, HB.out⟩
end Go.Proofs.YtfojfohfhomhbaaGreatDoor
