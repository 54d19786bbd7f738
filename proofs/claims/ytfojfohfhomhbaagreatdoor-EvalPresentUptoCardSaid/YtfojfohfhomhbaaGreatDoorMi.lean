/- Plain: what covers what, by two lists of options. Walks: the program's Covers. Walks: the program's question whether an entry has an attribute that a description covers. Walks: the syntax of a description, the program's way. Walks: the program's item Present, and of no item. -/
import Derived.Test.YtfojfohfhomhbaaGreatDoorMg
import Derived.Test.YtfojfohfhomhbaaGreatDoorMb
import Derived.Test.YtfojfohfhomhbaaGreatDoorMh
import Derived.Deep.QuietTactic
import Derived.BigQuiet
import Derived.Deep.RegionHeld3
import Derived.Deep.DeepMust
namespace Go.Proofs.YtfojfohfhomhbaaGreatDoor
open Go.RowKit

theorem memB_of {L M : List ByteArray} (h : ∀ t, t ∈ L ↔ t ∈ M) (t : ByteArray) : memB L t = memB M t := by
  rw [Bool.eq_iff_iff, memB_iff, memB_iff]; exact h t
theorem cov_d {d e : ByteArray} (h : descB d = false) : coversB d e = false := by simp [coversB, h]
theorem cov_e {d e : ByteArray} (h : descB e = false) : coversB d e = false := by simp [coversB, h]
theorem cov_m {d e : ByteArray} (h : memB (supersS (canonS (headS e))) (canonS (headS d)) = false) : coversB d e = false := by simp [coversB, h]
theorem cov_iff {d e : ByteArray} (h1 : descB d = true) (h2 : descB e = true) (h3 : memB (supersS (canonS (headS e))) (canonS (headS d)) = true) {Od Oe : List ByteArray} (hd : ∀ t, t ∈ Od ↔ t ∈ optsS d) (he : ∀ t, t ∈ Oe ↔ t ∈ optsS e) :
    coversB d e = true ↔ ∀ t ∈ Od, t ∈ Oe := by
  simp only [coversB, h1, h2, h3, Bool.true_and, List.all_eq_true, memB_iff]
  exact ⟨fun h t ht => (he t).2 (h t ((hd t).1 ht)), fun h t ht => (he t).1 (h t ((hd t).2 ht))⟩
theorem cov_no {d e : ByteArray} (h1 : descB d = true) (h2 : descB e = true) (h3 : memB (supersS (canonS (headS e))) (canonS (headS d)) = true) {Od Oe : List ByteArray} (hd : ∀ t, t ∈ Od ↔ t ∈ optsS d) (he : ∀ t, t ∈ Oe ↔ t ∈ optsS e)
    {k : Nat} (hk : k < Od.length) (hn : Od[k] ∉ Oe) : coversB d e = false := by
  cases h : coversB d e with
  | false => rfl
  | true => exact absurd ((cov_iff h1 h2 h3 hd he).1 h _ (List.getElem_mem hk)) hn
theorem take_in {L M : List ByteArray} {k : Nat} (hk : k < L.length) (h : ∀ t ∈ L.take k, t ∈ M) (hn : L[k] ∈ M) : ∀ t ∈ L.take (k + 1), t ∈ M := by
  rw [List.take_succ_eq_append_getElem hk]
  intro t ht
  rcases List.mem_append.1 ht with ht | ht
  · exact h t ht
  · rw [List.mem_singleton] at ht; rw [ht]; exact hn
end Go.Proofs.YtfojfohfhomhbaaGreatDoor

namespace Go.Proofs.YtfojfohfhomhbaaGreatDoor
open Go.RowKit

theorem belowD {K : Nat} {a w : World} (h : Below K a w) : Below K a w.drew := ⟨h.os, h.tape, h.output, h.size, h.block⟩
theorem descUp {w w' : World} {g : Nat} {a b : Value} (hb : Below w.heap.size w w') (h : DescAt w g a b) : DescAt w' g a b := h.up hb
set_option maxHeartbeats 4000000 in
set_option maxRecDepth 100000 in
theorem acovers_d (d e : ByteArray) (w : World) (hsd : d.size ≤ 1099511) (hse : e.size ≤ 1099511) (hm : MaxAt w) (hd : descB d = false) : Calls Tryz.prog 65 #[.string d, .string e] w fun en w' => en = .returned (.bool (coversB d e)) ∧ Below w.heap.size w w' := by
  have HC := hid (cov_d (e := e) hd)
  have HD := hid hd
  have HM := hid hm
  clear hd hm
  go_enter Tryz.func65, Tryz.ntmps65
  go_wp2_with (fail)
  refine (parse_no d _ hsd HD.out).mono ?_
  rintro en w1 ⟨p, rfl, hb1⟩
  have HB1 := hid (hb1.alloc hb1.size (.cells #[.string ⟨#[]⟩, .slice none 0 0] 75))
  clear hb1
  cases he : descB e with
  | false =>
    have HE := hid he
    clear he
    go_wp2_with (fail)
    refine (parse_no e _ hse HE.out).mono ?_
    rintro en w2 ⟨p2, rfl, hb2⟩
    have HB2 := hid (belowNext HB1.out hb2)
    clear hb2
    go_wp2_with (fail)
    go_quiet (fail)
    go_wp2
    go_ret
    exact retB2 HC.out.symm (belowN (HB2.out.alloc HB2.out.size _) _)
  | true =>
    have HE := hid he
    clear he
    go_wp2_with (fail)
    refine (parse_yes e _ hse HE.out (HM.out.below (Nat.le_refl _) HB1.out)).mono ?_
    rintro en w2 ⟨A2, n2, c2, O2, p2, rfl, _, _, _, hb2⟩
    have HB2 := hid (belowNext HB1.out hb2)
    clear hb2
    go_wp2_with (fail)
    go_quiet (fail)
    go_wp2
    go_ret
    exact retB2 HC.out.symm (belowN (HB2.out.alloc HB2.out.size _) _)

set_option maxHeartbeats 4000000 in
set_option maxRecDepth 100000 in
theorem acovers_e (d e : ByteArray) (w : World) (hsd : d.size ≤ 1099511) (hse : e.size ≤ 1099511) (hm : MaxAt w) (hd : descB d = true) (he : descB e = false) : Calls Tryz.prog 65 #[.string d, .string e] w fun en w' => en = .returned (.bool (coversB d e)) ∧ Below w.heap.size w w' := by
  have HC := hid (cov_e (d := d) he)
  have HD := hid hd
  have HE := hid he
  have HM := hid hm
  clear hd he hm
  go_enter Tryz.func65, Tryz.ntmps65
  go_wp2_with (fail)
  refine (parse_yes d _ hsd HD.out HM.out).mono ?_
  rintro en w1 ⟨A1, n1, c1, O1, p, rfl, _, _, _, hb1⟩
  have HB1 := hid (hb1.alloc hb1.size (.cells #[.string (canonS (headS d)), .slice A1 n1 c1] 75))
  clear hb1
  go_wp2_with (fail)
  refine (parse_no e _ hse HE.out).mono ?_
  rintro en w2 ⟨p2, rfl, hb2⟩
  have HB2 := hid (belowNext HB1.out hb2)
  clear hb2
  go_wp2_with (fail)
  go_quiet (fail)
  go_wp2
  go_ret
  exact retB2 HC.out.symm (belowN (HB2.out.alloc HB2.out.size _) _)

set_option maxHeartbeats 8000000 in
set_option maxRecDepth 100000 in
theorem acovers_yes (d e : ByteArray) (w : World) (hsd : d.size ≤ 1099511) (hse : e.size ≤ 1099511) (hm : MaxAt w) (hd : descB d = true) (he : descB e = true) : Calls Tryz.prog 65 #[.string d, .string e] w fun en w' => en = .returned (.bool (coversB d e)) ∧ Below w.heap.size w w' := by
  have HD := hid hd
  have HE := hid he
  have HM := hid hm
  clear hd he hm
  have hcs : (canonS (headS e)).size ≤ 1099511627776 := canon_le _ _ (by have := head_le e; omega) (by omega)
  have hsl := supers_len (canonS (headS e))
  go_enter Tryz.func65, Tryz.ntmps65
  go_wp2_with (fail)
  refine (parse_yes d _ hsd HD.out HM.out).mono ?_
  rintro en w1 ⟨A1, n1, c1, O1, p, rfl, hn1, hr1, hm1, hb1⟩
  have HB1 := hid (hb1.alloc hb1.size (.cells #[.string (canonS (headS d)), .slice A1 n1 c1] 75))
  have HX1 := hid (show DescAt (w1.alloc (.cells #[.string (canonS (headS d)), .slice A1 n1 c1] 75)) w1.heap.size _ _ from heap_alloc_new _ _)
  have HR1 := hid (hr1.up (below1 w1 (.cells #[.string (canonS (headS d)), .slice A1 n1 c1] 75)))
  have HM1 := hid hm1
  clear hb1 hr1 hm1
  go_wp2_with (fail)
  refine (parse_yes e _ hse HE.out (HM.out.below (Nat.le_refl _) HB1.out)).mono ?_
  rintro en w2 ⟨A2, n2, c2, O2, p2, rfl, hn2, hr2, hm2, hb2⟩
  have HB2 := hid (belowNext HB1.out hb2)
  have HX2 := hid (HX1.out.up hb2)
  have HR12 := hid (HR1.out.up hb2)
  have HR2 := hid hr2
  have HM2 := hid hm2
  have hx1 : w1.heap.size < w2.heap.size := (Array.getElem?_eq_some_iff.1 HX2.out).1
  obtain ⟨x0, x1, _, _⟩ := HX2.out.facts
  clear hb2 hr2 hm2
  go_wp2_with (fail)
  have HY := hid (show DescAt (w2.alloc (.cells #[.string (canonS (headS e)), .slice A2 n2 c2] 75)) w2.heap.size _ _ from heap_alloc_new _ _)
  have HX3 := hid (HX2.out.up (below1 w2 (.cells #[.string (canonS (headS e)), .slice A2 n2 c2] 75)))
  have k0 := HX3.out.facts.1
  have k1 := HY.out.facts.1
  cases hmb : memB (supersS (canonS (headS e))) (canonS (headS d)) with
  | false =>
    have HC := hid (cov_m hmb)
    go_region_held3 (fun w' => w'.cell? ⟨w1.heap.size, 0, none⟩ = some (.string (canonS (headS d))) ∧ w'.cell? ⟨w2.heap.size, 0, none⟩ = some (.string (canonS (headS e)))) ((first | exact ⟨k0, k1⟩ | exact ⟨m0, m1⟩))
      ((first
        | (go_at_call 131; go_must (refine (supers_any _ _ hcs).mono ?_; rintro en w3 ⟨A3, c3, rfl, hc3, hr3, hb3⟩; have HX4 := hid (descUp hb3 HX3.out); have HY4 := hid (descUp hb3 HY.out); have m0 := HX4.out.facts.1; have m1 := HY4.out.facts.1; have HBA := hid (belowNext (belowD (HB2.out.alloc HB2.out.size (.cells #[.string (canonS (headS e)), .slice A2 n2 c2] 75))) hb3); have HBX := hid ((belowD (below1 w2 (.cells #[.string (canonS (headS e)), .slice A2 n2 c2] 75))).trans (hb3.mono (by simp)))))
        | (go_at_call 130; refine (has_any (supersS (canonS (headS e))) _ _ _ _ _ _ hr3 (by omega)).mono ?_; rintro en w4 ⟨rfl, rfl⟩)))
    go_wp2
    go_ret
    exact retB2 HC.out.symm HBA.out
  | true =>
    have HMB := hid hmb
    go_region_held3 (fun w' => w'.cell? ⟨w1.heap.size, 0, none⟩ = some (.string (canonS (headS d))) ∧ w'.cell? ⟨w2.heap.size, 0, none⟩ = some (.string (canonS (headS e)))) ((first | exact ⟨k0, k1⟩ | exact ⟨m0, m1⟩))
      ((first
        | (go_at_call 131; go_must (refine (supers_any _ _ hcs).mono ?_; rintro en w3 ⟨A3, c3, rfl, hc3, hr3, hb3⟩; have HX4 := hid (descUp hb3 HX3.out); have HY4 := hid (descUp hb3 HY.out); have m0 := HX4.out.facts.1; have m1 := HY4.out.facts.1; have HBA := hid (belowNext (belowD (HB2.out.alloc HB2.out.size (.cells #[.string (canonS (headS e)), .slice A2 n2 c2] 75))) hb3); have HBX := hid ((belowD (below1 w2 (.cells #[.string (canonS (headS e)), .slice A2 n2 c2] 75))).trans (hb3.mono (by simp)))))
        | (go_at_call 130; refine (has_any (supersS (canonS (headS e))) _ _ _ _ _ _ hr3 (by omega)).mono ?_; rintro en w4 ⟨rfl, rfl⟩)))
    obtain ⟨_, y1, _, _⟩ := HX4.out.facts
    obtain ⟨_, y2, _, _⟩ := HY4.out.facts
    have RX := hid (HR12.out.below HBX.out)
    have RY := hid (HR2.out.below HBX.out)
    clear hr3 hb3 x0 x1
    go_wp2
    go_loop [12, 43] (fun _ i => ∃ k : Nat, k ≤ n1 ∧ i = .int .i64 k ∧ Hid (∀ t ∈ O1.take k, t ∈ O2)) (fun _ i => n1 - (intOf i).toNat)
    case atStart => exact ⟨0, Nat.zero_le _, rfl, hid (by simp)⟩
    case round =>
      obtain ⟨k, hk, rfl, H⟩ := hrel
      by_cases hlt : k < n1
      · obtain ⟨ad, rfl, hka, hca⟩ := svCell RX.out hlt
        obtain ⟨t, ht⟩ : ∃ t, t = O1[k] := ⟨_, rfl⟩
        rw [← ht] at hca
        have HT := hid ht
        clear ht
        cases hq : memB O2 t with
        | true =>
          have HN := hid (take_in hka H.out (by rw [← HT.out]; exact memB_iff.1 hq))
          go_wp2_with (go_at_call 130; refine (has_any O2 _ _ _ _ _ _ RY.out (by omega)).mono ?_; rintro en w4 ⟨rfl, rfl⟩)
          go_round
          case rel => exact ⟨k + 1, by omega, by go_num, HN⟩
          case measure => simp [intOf]; omega
        | false =>
          have HN := hid (cov_no HD.out HE.out HMB.out HM1.out HM2.out hka (by rw [← HT.out]; exact fun h => by rw [memB_iff.2 h] at hq; cases hq))
          go_wp2_with (go_at_call 130; refine (has_any O2 _ _ _ _ _ _ RY.out (by omega)).mono ?_; rintro en w4 ⟨rfl, rfl⟩)
          go_ret
          exact retB2 HN.out.symm HBA.out
      · have HN := hid ((cov_iff HD.out HE.out HMB.out HM1.out HM2.out).2 (by have := H.out; rwa [List.take_of_length_le (by have := RX.out.1; simp at this; omega)] at this))
        clear H
        go_wp2
        go_ret
        exact retB2 HN.out.symm HBA.out

theorem acovers_any (d e : ByteArray) (w : World) (hsd : d.size ≤ 1099511) (hse : e.size ≤ 1099511) (hm : MaxAt w) : Calls Tryz.prog 65 #[.string d, .string e] w fun en w' => en = .returned (.bool (coversB d e)) ∧ Below w.heap.size w w' := by
  cases hd : descB d with
  | false => exact acovers_d d e w hsd hse hm hd
  | true =>
    cases he : descB e with
    | false => exact acovers_e d e w hsd hse hm hd he
    | true => exact acovers_yes d e w hsd hse hm hd he
end Go.Proofs.YtfojfohfhomhbaaGreatDoor

namespace Go.Proofs.YtfojfohfhomhbaaGreatDoor
open Go.RowKit

set_option maxHeartbeats 4000000 in
set_option maxRecDepth 100000 in
theorem hasq_any (a : AttrD) (d : ByteArray) (g m c : Nat) (B : Option Addr) (w : World) (hg : w.cell? ⟨g, 0, none⟩ = some (.string d)) (hv : a.vals.length = m) (hsd : d.size ≤ 1099511) (hsc : a.canon.size ≤ 1099511) (hm : MaxAt w) :
    Calls Tryz.prog 64 #[.agg #[.string a.desc, .string a.canon, .slice B m c], .pointer (some ⟨g, 0, none⟩)] w fun e w' => e = .returned (.bool (!a.vals.isEmpty && coversB d a.canon)) ∧ Below w.heap.size w w' := by
  have HM := hid hm
  have hgl : g < w.heap.size := World.block_lt_of_cell? _ _ hg
  have HV := hid (show (!a.vals.isEmpty) = decide (0 < m) by rw [← hv]; cases a.vals <;> simp)
  clear hm hv
  go_enter Tryz.func64, Tryz.ntmps64
  by_cases h0 : 0 < m
  · have HQ := hid (show (!a.vals.isEmpty && coversB d a.canon) = coversB d a.canon by rw [HV.out]; simp [h0])
    go_wp2_with (go_at_call 65; refine (acovers_any _ _ _ hsd hsc (HM.out.below (Nat.le_refl _) (below1 _ _))).mono ?_; rintro e w1 ⟨rfl, hb1⟩)
    go_ret
    exact retB2 HQ.out.symm ((below1 w _).trans (hb1.mono (by simp)))
  · have HQ := hid (show (!a.vals.isEmpty && coversB d a.canon) = false by rw [HV.out]; simp [h0])
    go_wp2
    go_ret
    exact retB2 HQ.out.symm (below1 w _)

def IdxPost (d : ByteArray) (L : List AttrD) (w : World) (e : Ending) (w' : World) : Prop := ∃ i : Int, e = .returned (.int .i64 i) ∧ (hasS d L = decide (0 ≤ i)) ∧ Below w.heap.size w w'
set_option maxHeartbeats 4000000 in
set_option maxRecDepth 100000 in
theorem idx_any (L : List AttrD) (d : ByteArray) (g n c : Nat) (A : Option Addr) (w : World) (hg : w.cell? ⟨g, 0, none⟩ = some (.string d)) (hr : AttrsAt w w.heap.size A n L) (hn : n ≤ 1099511) (hsd : d.size ≤ 1099511) (hsc : ∀ a ∈ L, a.canon.size ≤ 1099511) (hm : MaxAt w) :
    Calls Tryz.prog 129 #[.slice A n c, .func (.func 64) #[] #[.pointer (some ⟨g, 0, none⟩)]] w (IdxPost d L w) := by
  have HM := hid hm
  have HG := hid hg
  have HR := hid hr
  have HS := hid hsc
  have hgl : g < w.heap.size := World.block_lt_of_cell? _ _ hg
  have hl : L.length = n := hr.1
  clear hm hg hr hsc
  go_enter Tryz.func129, Tryz.ntmps129
  go_wp2
  go_loopw [5, 8] (fun _ i wr => ∃ k : Nat, k ≤ n ∧ i = .int .i64 k ∧ Hid (hasS d (L.take k) = false) ∧ Hid (Below w.heap.size w wr)) (fun _ i _ => n - (intOf i).toNat)
  case atStart => exact ⟨0, Nat.zero_le _, rfl, hid rfl, hid (Below.refl _ _)⟩
  case round =>
    obtain ⟨k, hk, rfl, H, HB⟩ := hrel
    by_cases hlt : k < n
    · obtain ⟨ad, rfl, hadb, hka, hat⟩ := (HR.out.below HB.out).at hlt
      obtain ⟨h1, h2, B, m, cc, h3, h4, h5⟩ := hat.forms
      have hgc := (HB.out.cell (p := ⟨g, 0, none⟩) hgl).trans HG.out
      obtain ⟨a, ha⟩ : ∃ a, a = L[k] := ⟨_, rfl⟩
      have hac := HS.out _ (List.getElem_mem hka)
      rw [← ha] at h1 h2 h5 hac
      have HA := hid ha
      have HV := hid (show a.vals.length = m by have := h5.1; simpa using this)
      have HMw := hid (HM.out.below (Nat.le_refl _) HB.out)
      clear ha h5 hat
      cases hq : (!a.vals.isEmpty && coversB d a.canon) with
      | true =>
        have HQ := hid (hasS_hit (d := d) hka (by rw [← HA.out]; exact hq))
        have HQ2 := hid hq
        clear hq
        go_wp2_with (fail)
        refine (hasq_any a d g m cc B wr hgc HV.out hsd hac HMw.out).mono ?_
        rintro e w1 ⟨rfl, hb1⟩
        rw [HQ2.out]
        go_wp2
        go_ret
        exact ⟨k, rfl, by rw [HQ.out]; simp, belowNext HB.out hb1⟩
      | false =>
        have HQ := hid (hasS_take (d := d) hka H.out (by rw [← HA.out]; exact hq))
        have HQ2 := hid hq
        clear hq
        go_wp2_with (fail)
        refine (hasq_any a d g m cc B wr hgc HV.out hsd hac HMw.out).mono ?_
        rintro e w1 ⟨rfl, hb1⟩
        rw [HQ2.out]
        go_wp2
        go_roundw
        case rel => exact ⟨k + 1, by omega, by go_num, HQ, hid (belowNext HB.out hb1)⟩
        case measure => simp [intOf]; omega
    · have HQ := hid (hasS_all (d := d) (L := L) (k := k) (by omega) H.out)
      go_wp2
      go_ret
      exact ⟨-1, rfl, by rw [HQ.out]; simp, HB.out⟩

set_option maxHeartbeats 1600000 in
theorem contains_any (L : List AttrD) (d : ByteArray) (g n c : Nat) (A : Option Addr) (w : World) (hg : w.cell? ⟨g, 0, none⟩ = some (.string d)) (hr : AttrsAt w w.heap.size A n L) (hn : n ≤ 1099511) (hsd : d.size ≤ 1099511) (hsc : ∀ a ∈ L, a.canon.size ≤ 1099511) (hm : MaxAt w) :
    Calls Tryz.prog 63 #[.slice A n c, .func (.func 64) #[] #[.pointer (some ⟨g, 0, none⟩)]] w fun e w' => e = .returned (.bool (hasS d L)) ∧ Below w.heap.size w w' := by
  have HC := hid (idx_any L d g n c A w hg hr hn hsd hsc hm)
  clear hg hr hsc hm
  go_enter Tryz.func63, Tryz.ntmps63
  go_wp2_with (fail)
  refine HC.out.mono ?_
  rintro e w1 ⟨i, rfl, hi, hb1⟩
  have HI := hid hi
  clear hi
  go_wp2
  go_ret
  exact retB2 HI.out.symm hb1

set_option maxHeartbeats 1600000 in
theorem ehas_any (L : List AttrD) (d nm : ByteArray) (ln : Int) (KA A : Option Addr) (kn kc n c : Nat) (w : World) (hr : AttrsAt w w.heap.size A n L) (hn : n ≤ 1099511) (hsd : d.size ≤ 1099511) (hsc : ∀ a ∈ L, a.canon.size ≤ 1099511) (hm : MaxAt w) :
    Calls Tryz.prog 28 #[.agg #[.int .i64 ln, .string nm, .slice KA kn kc, .slice A n c], .string d] w fun e w' => e = .returned (.bool (hasS d L)) ∧ Below w.heap.size w w' := by
  have HR := hid hr
  have HS := hid hsc
  have HM := hid hm
  clear hr hsc hm
  go_enter Tryz.func28, Tryz.ntmps28
  go_wp2_with (fail)
  have HB := hid (below2 w (.cells #[.int .i64 ln, .string nm, .slice KA kn kc, .slice A n c] 30) (.cells #[.string d] 9))
  refine (contains_any L d (w.heap.size + 1) n c A _ ?_ ((HR.out.up (below1 w _)).up (below1 _ _)) hn hsd HS.out (HM.out.below (Nat.le_refl _) HB.out)).mono ?_
  · simp [go_sem]
  rintro e w1 ⟨rfl, hb1⟩
  go_wp2
  go_ret
  exact retB2 rfl (belowNext HB.out hb1)
end Go.Proofs.YtfojfohfhomhbaaGreatDoor

namespace Go.Proofs.YtfojfohfhomhbaaGreatDoor
open Go.RowKit

set_option maxHeartbeats 1600000 in
set_option maxRecDepth 100000 in
theorem asyntax_any (s : ByteArray) (w : World) (hs : s.size ≤ 1099511) (hm : MaxAt w) : Calls Tryz.prog 24 #[.string s] w fun e w' => e = .returned (.int .i64 (synS s)) ∧ Below w.heap.size w w' := by
  have HM := hid hm
  clear hm
  go_enter Tryz.func24, Tryz.ntmps24
  cases hd : descB s with
  | false =>
    have H := hid (syn_no hd)
    have HD := hid hd
    clear hd
    go_wp2_with (go_at_call 60; refine (parse_no _ _ hs HD.out).mono ?_; rintro e w1 ⟨p, rfl, hb1⟩)
    go_ret
    exact retI2 H.out.symm (hb1.alloc hb1.size _)
  | true =>
    have HD := hid hd
    clear hd
    have hd1 := descTyp
    cases h : find4 (canonS (headS s)) with
    | none =>
      have hi : idxI (find4 (canonS (headS s))) = 0 := by rw [h]; rfl
      have hn : (find4 (canonS (headS s))).isSome = false := by rw [h]; rfl
      have H := hid (syn_none HD.out h)
      clear h
      go_wp2_with (first
        | (go_at_call 60; refine (parse_yes _ _ hs HD.out HM.out).mono ?_; rintro e w1 ⟨A, n, c, O, p, rfl, _, _, _, hb1⟩)
        | (go_at_call 61; refine (byName_any _ _).mono ?_; rintro e w2 ⟨rfl, rfl⟩))
      go_ret
      exact retI2 H.out.symm (hb1.alloc hb1.size _)
    | some i =>
      have hi : idxI (find4 (canonS (headS s))) = (i : Int) := by rw [h]; rfl
      have hn : (find4 (canonS (headS s))).isSome = true := by rw [h]; rfl
      have H := hid (syn_some HD.out h)
      have hlt := find4_lt h
      have hsy := rowSyn
      clear h
      go_wp2_with (first
        | (go_at_call 60; refine (parse_yes _ _ hs HD.out HM.out).mono ?_; rintro e w1 ⟨A, n, c, O, p, rfl, _, _, _, hb1⟩)
        | (go_at_call 61; refine (byName_any _ _).mono ?_; rintro e w2 ⟨rfl, rfl⟩)
        | (go_at_call 62; refine (rows_any i hlt _).mono ?_; rintro e w3 ⟨B, k, c3, rfl, hb3⟩))
      go_ret
      exact retI2 H.out.symm (belowNext (hb1.alloc hb1.size _) hb3)

end Go.Proofs.YtfojfohfhomhbaaGreatDoor

namespace Go.Proofs.YtfojfohfhomhbaaGreatDoor
open Go.RowKit

/-- What is known, as a truth. -/
def truthI (b : Bool) : Int := match b with
  | true => 2
  | false => 0
theorem truth_any (b : Bool) (w : World) : Calls Tryz.prog 27 #[.bool b] w fun e w' => e = .returned (.int .i64 (truthI b)) ∧ w = w' := by
  go_enter Tryz.func27, Tryz.ntmps27
  cases b
  all_goals (go_wp2; go_ret; exact ⟨rfl, rfl⟩)
theorem undefined_any (cs : Array Value) (w : World) : Calls Tryz.prog 25 #[.agg cs] w fun e w' => e = .returned (.int .i64 1) ∧ Below w.heap.size w w' := by
  go_enter Tryz.func25, Tryz.ntmps25
  go_wp2
  go_ret
  exact ⟨rfl, below1 _ _⟩

def entryV (ln : Int) (nm : ByteArray) (KA : Option Addr) (kn kc : Nat) (A : Option Addr) (n c : Nat) : Value := .agg #[.int .i64 ln, .string nm, .slice KA kn kc, .slice A n c]
set_option maxHeartbeats 1600000 in
theorem item1_any (L : List AttrD) (d nm : ByteArray) (ln : Int) (KA A : Option Addr) (kn kc n c g : Nat) (w : World) (hg : w.cell? ⟨g, 2, none⟩ = some (.string d)) (hr : AttrsAt w w.heap.size A n L) (hn : n ≤ 1099511) (hsd : d.size ≤ 1099511) (hsc : ∀ a ∈ L, a.canon.size ≤ 1099511) (hm : MaxAt w) :
    Calls Tryz.prog 26 #[.agg #[.int .i64 ln, .string nm, .slice KA kn kc, .slice A n c], .pointer (some ⟨g, 0, none⟩)] w fun e w' => e = .returned (.int .i64 (truthI (hasS d L))) ∧ Below w.heap.size w w' := by
  have HR := hid hr
  have HS := hid hsc
  have HM := hid hm
  have hgl : g < w.heap.size := World.block_lt_of_cell? _ _ hg
  clear hr hsc hm
  go_enter Tryz.func26, Tryz.ntmps26
  go_wp2_with (fail)
  have HB := hid (below1 w (.cells #[.int .i64 ln, .string nm, .slice KA kn kc, .slice A n c] 30))
  refine (ehas_any L d nm ln KA A kn kc n c _ (HR.out.up (below1 w _)) hn hsd HS.out (HM.out.below (Nat.le_refl _) HB.out)).mono ?_
  rintro e w1 ⟨rfl, hb1⟩
  go_wp2_with (fail)
  refine (truth_any _ _).mono ?_
  rintro e w2 ⟨rfl, rfl⟩
  go_wp2
  go_ret
  exact ⟨rfl, belowNext HB.out hb1⟩

theorem nodeF (n : NodeD) (A : Option Addr) (k c : Nat) : nodeV n A k c = .agg #[.int .i64 n.depth, .int .i64 n.op, .string n.desc, .string n.value, .string n.ini, .slice A k c, .string n.fin, .string n.rule, .bool n.dn] := rfl
def notItem (op : Int) : Prop := op ≠ 3 ∧ op ≠ 4 ∧ op ≠ 5 ∧ op ≠ 6 ∧ op ≠ 8 ∧ op ≠ 9
set_option maxHeartbeats 3200000 in
set_option maxRecDepth 100000 in
theorem item_no (n : NodeD) (A : Option Addr) (k c : Nat) (w : World) (hop : notItem n.op) (hs : n.desc.size ≤ 1099511) (hm : MaxAt w) (h : synS n.desc = 0 ∨ n.op ≠ 7) :
    Calls Tryz.prog 13 #[nodeV n A k c] w fun e w' => e = .returned (.func (.func 25) #[] #[]) ∧ Below w.heap.size w w' := by
  rw [nodeF]
  have HM := hid hm
  obtain ⟨o3, o4, o5, o6, o8, o9⟩ := hop
  have e3 : (n.op == 3) = false := by simpa using o3
  have e4 : (n.op == 4) = false := by simpa using o4
  have e5 : (n.op == 5) = false := by simpa using o5
  have e6 : (n.op == 6) = false := by simpa using o6
  have e8 : (n.op == 8) = false := by simpa using o8
  have e9 : (n.op == 9) = false := by simpa using o9
  obtain ⟨op, ho⟩ : ∃ op, op = n.op := ⟨_, rfl⟩
  have HH := hid h
  clear hm h o3 o4 o5 o6 o8 o9
  go_enter Tryz.func13, Tryz.ntmps13
  go_wp2_with (fail)
  refine (asyntax_any _ _ hs (HM.out.below (Nat.le_refl _) (below1 w _))).mono ?_
  rintro e w1 ⟨rfl, hb1⟩
  have HB := hid (belowNext (below1 w _) hb1)
  have HN := hid ((hb1.block w.heap.size (by simp)).trans (heap_alloc_new w _))
  have c1 : ∀ o, (w1.alloc o).cell? ⟨w.heap.size, 1, none⟩ = some (.int .i64 n.op) := fun o => ((below1 w1 o).cell (p := ⟨w.heap.size, 1, none⟩) (Array.getElem?_eq_some_iff.1 HN.out).1).trans (blkCell HN.out 1)
  clear hb1
  by_cases hz : synS n.desc = 0
  · have ez : (synS n.desc == 0) = true := by simpa using hz
    clear hz
    go_wp2
    go_ret
    exact ⟨rfl, HB.out.alloc HB.out.size _⟩
  · have ez : (synS n.desc == 0) = false := by simpa using hz
    have e7 : (n.op == 7) = false := by simpa using HH.out.resolve_left hz
    clear hz
    go_wp2
    go_ret
    exact ⟨rfl, HB.out.alloc HB.out.size _⟩

/-- The node's block. -/
def NodeAt (w : World) (g : Nat) (n : NodeD) (A : Option Addr) (k c : Nat) : Prop := w.heap[g]? = some (.cells #[.int .i64 n.depth, .int .i64 n.op, .string n.desc, .string n.value, .string n.ini, .slice A k c, .string n.fin, .string n.rule, .bool n.dn] 27 (0, 0))
set_option maxHeartbeats 3200000 in
set_option maxRecDepth 100000 in
theorem item_yes (n : NodeD) (A : Option Addr) (k c : Nat) (w : World) (hs : n.desc.size ≤ 1099511) (hm : MaxAt w) (hz : synS n.desc ≠ 0) (h7 : n.op = 7) :
    Calls Tryz.prog 13 #[nodeV n A k c] w fun e w' => e = .returned (.func (.func 26) #[] #[.pointer (some ⟨w.heap.size, 0, none⟩)]) ∧ NodeAt w' w.heap.size n A k c ∧ Below w.heap.size w w' := by
  rw [nodeF]
  have HM := hid hm
  have e9 : (n.op == 9) = false := by rw [h7]; rfl
  have e7 : (n.op == 7) = true := by rw [h7]; rfl
  have ez : (synS n.desc == 0) = false := by simpa using hz
  clear hm hz h7
  go_enter Tryz.func13, Tryz.ntmps13
  go_wp2_with (fail)
  refine (asyntax_any _ _ hs (HM.out.below (Nat.le_refl _) (below1 w _))).mono ?_
  rintro e w1 ⟨rfl, hb1⟩
  have HB := hid (belowNext (below1 w _) hb1)
  have HN := hid (show NodeAt w1 w.heap.size n A k c from (hb1.block w.heap.size (by simp)).trans (heap_alloc_new w _))
  have c1 : ∀ o, (w1.alloc o).cell? ⟨w.heap.size, 1, none⟩ = some (.int .i64 n.op) := fun o => ((below1 w1 o).cell (p := ⟨w.heap.size, 1, none⟩) (Array.getElem?_eq_some_iff.1 HN.out).1).trans (blkCell HN.out 1)
  clear hb1
  go_wp2
  go_ret
  exact ⟨rfl, ((below1 w1 _).block _ (Array.getElem?_eq_some_iff.1 HN.out).1).trans HN.out, HB.out.alloc HB.out.size _⟩
end Go.Proofs.YtfojfohfhomhbaaGreatDoor
