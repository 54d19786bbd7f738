/- Walks: whether two entries are the same; whether the marks behind the copy still lie. Walks: the law's question whether two nodes are the same. -/
import Derived.Test.YtfojfohfhomhbaaGreatDoorMk
import Derived.Deep.QuietTactic
import Derived.BigQuiet
import Derived.Test.YtfojfohfhomhbaaGreatDoorMd
import Derived.Test.YtfojfohfhomhbaaGreatDoorMi
namespace Go.Proofs.YtfojfohfhomhbaaGreatDoor
open Go.RowKit

theorem Copies.at {base : Nat} {w : World} : ∀ {l : List AttrD} {xs : List Value}, Copies base w l xs → xs.length = l.length * 3 ∧ ∀ j (h : j < l.length), ∃ v, xs[j * 3]? = some (.string l[j].desc) ∧ xs[j * 3 + 1]? = some (.string l[j].canon) ∧ xs[j * 3 + 2]? = some v ∧ Roomy l[j].vals base w v
  | [], xs, h => by
    have h : xs = [] := h
    subst h
    exact ⟨rfl, fun j hj => absurd hj (Nat.not_lt_zero _)⟩
  | a :: l, xs, ⟨v, ys, e, hv, hl⟩ => by
    subst e
    have ih := hl.at
    refine ⟨by simp [attrCs, ih.1]; omega, fun j hj => ?_⟩
    cases j with
    | zero => exact ⟨v, rfl, rfl, rfl, hv⟩
    | succ j =>
      obtain ⟨u, h1, h2, h3, h4⟩ := ih.2 j (by simpa using hj)
      have sh : ∀ i, (attrCs a v ++ ys)[(j + 1) * 3 + i]? = ys[j * 3 + i]? := fun i => by
        rw [show (j + 1) * 3 + i = (j * 3 + i) + 3 by omega]; rfl
      exact ⟨u, (sh 0).trans h1, (sh 1).trans h2, (sh 2).trans h3, h4⟩
/-- The copy, as it is read. -/
theorem CopyAt.form {base : Nat} {w : World} {KL : List ByteArray} {L : List AttrD} {ku au : Value} (h : CopyAt base w KL L ku au) : ∃ (kg kc g c : Nat), ku = .slice (some ⟨kg, 0, none⟩) KL.length kc ∧ au = .slice (some ⟨g, 0, none⟩) L.length c ∧ L.length + 1 ≤ c ∧
    Rd w w.heap.size 1 (some ⟨kg, 0, none⟩) KL.length (sv KL) ∧ AttrsAt w w.heap.size (some ⟨g, 0, none⟩) L.length L ∧ Roomy KL base w (.slice (some ⟨kg, 0, none⟩) KL.length kc) ∧
    (∀ j (h : j < L.length), ∃ v, w.cell? ⟨g, j * 3 + 2, none⟩ = some v ∧ Roomy L[j].vals base w v) ∧ w.cell? ⟨g, L.length * 3, none⟩ = some (.string spareS) ∧ g < w.heap.size := by
  obtain ⟨hk, g, c, xs, rfl, ho, hc⟩ := h
  obtain ⟨kg, kc, rfl, _, _, _, hkr, _⟩ := hk.form
  have hr := Rd.ofOwn ho
  obtain ⟨ad, e1, hb, hcell⟩ := hr.2 (by omega)
  injection e1 with e1
  subst e1
  have hca := hc.at
  have plain : ∀ i, (⟨g, 0, none⟩ : Addr).add i = ⟨g, i, none⟩ := fun i => by by_cases h0 : i = 0 <;> simp [Addr.add, h0]
  have inX : ∀ i u, xs[i]? = some u → w.cell? ((⟨g, 0, none⟩ : Addr).add i) = some u := fun i u hu => hcell i u (by
    have hj : i < xs.length := (List.getElem?_eq_some_iff.1 hu).1
    rw [List.getElem?_append_left hj]; exact hu)
  refine ⟨kg, kc, g, c, rfl, rfl, ?_, hkr, ⟨rfl, fun _ => ⟨_, rfl, hb, fun j hj => ?_⟩⟩, hk, fun j hj => ?_, ?_, hb⟩
  · obtain ⟨_, _, h1, h2⟩ := ownForm ho
    injection h1 with _ _ h3
    omega
  · obtain ⟨v, h1, h2, h3, h4⟩ := hca.2 j hj
    obtain ⟨vg, vc, rfl, _, h5, h6, h7, _⟩ := h4.form
    exact ⟨inX _ _ h1, inX _ _ h2, some ⟨vg, 0, none⟩, _, vc, inX _ _ h3, ⟨by omega, fun e => by cases e⟩, h7⟩
  · obtain ⟨v, _, _, h3, h4⟩ := hca.2 j hj
    exact ⟨v, by rw [← plain]; exact inX _ _ h3, h4⟩
  · have h1 := hcell (L.length * 3) (.string spareS) (by rw [List.getElem?_append_right (by rw [hca.1]; exact Nat.le_refl _), hca.1, Nat.sub_self]; rfl)
    rwa [plain] at h1
theorem CopyAt.below {base : Nat} {w w' : World} {KL : List ByteArray} {L : List AttrD} {ku au : Value} (h : CopyAt base w KL L ku au) (hb : Below w.heap.size w w') : CopyAt base w' KL L ku au := by
  obtain ⟨hk, g, c, xs, e, ho, hc⟩ := h
  exact ⟨hk.below hb, g, c, xs, e, ownsBelow ho hb, hc.below hb⟩

set_option maxHeartbeats 8000000 in
set_option maxRecDepth 100000 in
theorem sameentry_any (KL : List ByteArray) (L : List AttrD) (nm : ByteArray) (ln : Int) (KA KB A B : Option Addr) (kn kc kd n c d : Nat) (w : World) (hka : Rd w w.heap.size 1 KA kn (sv KL)) (hkb : Rd w w.heap.size 1 KB kn (sv KL)) (hkn : kn ≤ 1099511) (hra : AttrsAt w w.heap.size A n L) (hrb : AttrsAt w w.heap.size B n L) (hn : n ≤ 1099511) (hv : ∀ a ∈ L, a.vals.length ≤ 1099511) :
    Calls Tryz.prog 22 #[.agg #[.int .i64 ln, .string nm, .slice KA kn kc, .slice A n c], .agg #[.int .i64 ln, .string nm, .slice KB kn kd, .slice B n d]] w fun e w' => e = .returned (.bool true) ∧ Below w.heap.size w w' := by
  have HKA := hid hka
  have HKB := hid hkb
  have HA := hid hra
  have HB := hid hrb
  have HV := hid hv
  have hl : L.length = n := hra.1
  have HW := hid (below2 w (.cells #[.int .i64 ln, .string nm, .slice KA kn kc, .slice A n c] 30) (.cells #[.int .i64 ln, .string nm, .slice KB kn kd, .slice B n d] 30))
  have HE1 := hid (show EntBox ((w.alloc (.cells #[.int .i64 ln, .string nm, .slice KA kn kc, .slice A n c] 30)).alloc (.cells #[.int .i64 ln, .string nm, .slice KB kn kd, .slice B n d] 30)) w.heap.size ln nm (.slice KA kn kc) A n c from heap_alloc2_old _ _ _)
  have HE2 := hid (show EntBox ((w.alloc (.cells #[.int .i64 ln, .string nm, .slice KA kn kc, .slice A n c] 30)).alloc (.cells #[.int .i64 ln, .string nm, .slice KB kn kd, .slice B n d] 30)) (w.heap.size + 1) ln nm (.slice KB kn kd) B n d from heap_alloc2_new _ _ _)
  clear hka hkb hra hrb hv
  go_enter Tryz.func22, Tryz.ntmps22
  go_wp2_with (fail)
  go_must (refine (sametexts_any KL KA KB kn kc kd _ _ _ (HKA.out.below HW.out) (HKB.out.below HW.out) (by omega)).mono ?_)
  rintro e w1 ⟨rfl, q, hw1⟩
  have HE3 := hid (show EntBox w1 w.heap.size ln nm (.slice KA kn kc) A n c by rw [hw1]; exact HE1.out)
  have HE4 := hid (show EntBox w1 (w.heap.size + 1) ln nm (.slice KB kn kd) B n d by rw [hw1]; exact HE2.out)
  have HW1 := hid (show Below w.heap.size w w1 by rw [hw1]; exact belowN HW.out q)
  have x3 := HE3.out.facts.2.2.2.1
  have y3 := HE4.out.facts.2.2.2.1
  clear hw1 HE1 HE2
  go_wp2
  go_loopw [5, 6, 7] (fun i _ _ wr => ∃ k : Nat, k ≤ n ∧ i = .int .i64 k ∧ Hid (EntBox wr w.heap.size ln nm (.slice KA kn kc) A n c) ∧ Hid (EntBox wr (w.heap.size + 1) ln nm (.slice KB kn kd) B n d) ∧ Hid (Below w.heap.size w wr)) (fun i _ _ _ => n - (intOf i).toNat)
  case atStart => exact ⟨0, Nat.zero_le _, rfl, HE3, HE4, HW1⟩
  case round =>
    clear HE3 HE4 HW1 x3 y3
    obtain ⟨k, hk, rfl, HE1, HE2, HWr⟩ := hrel
    have x3 := HE1.out.facts.2.2.2.1
    have y3 : ∀ o, (wr.alloc o).cell? ⟨w.heap.size + 1, 3, none⟩ = some (.slice B n d) := fun o => ((below1 wr o).cell (p := ⟨w.heap.size + 1, 3, none⟩) (Array.getElem?_eq_some_iff.1 HE2.out).1).trans HE2.out.facts.2.2.2.1
    by_cases hlt : k < n
    · obtain ⟨ad, rfl, hadb, hka, hat⟩ := (HA.out.below HWr.out).at hlt
      obtain ⟨bd, rfl, hbdb, hkb, hbt⟩ := (HB.out.below HWr.out).at hlt
      obtain ⟨a, ha⟩ : ∃ a, a = L[k] := ⟨_, rfl⟩
      have hav := HV.out _ (List.getElem_mem hka)
      rw [← ha] at hat hbt hav
      have hws := HWr.out.size
      obtain ⟨h1, h2, A1, m1, c1, h3, h4, h5⟩ := hat.forms
      obtain ⟨k1, k2, B1, m2, c2, k3, k4, k5⟩ := hbt.forms
      have hm1 : a.vals.length = m1 := by have := h5.1; simpa using this
      have hm2 : m2 = m1 := by have := k5.1; simp at this; omega
      subst hm2
      have l1 : ∀ o, (wr.alloc o).cell? (bd.add (k * 3)) = some (.string a.desc) := fun o => ((below1 wr o).cell (by rw [addBlock]; omega)).trans k1
      have l2 : ∀ o, (wr.alloc o).cell? ⟨(bd.add (k * 3)).block, (bd.add (k * 3)).off + 1, none⟩ = some (.string a.canon) := fun o => ((below1 wr o).cell (by show (bd.add (k * 3)).block < _; rw [addBlock]; omega)).trans k2
      have l3 : ∀ o, (wr.alloc o).cell? ⟨(bd.add (k * 3)).block, (bd.add (k * 3)).off + 2, none⟩ = some (.slice B1 m2 c2) := fun o => ((below1 wr o).cell (by show (bd.add (k * 3)).block < _; rw [addBlock]; omega)).trans k3
      have HR1 := hid h5
      have HR2 := hid k5
      have HM := hid hm1
      have hm : m2 ≤ 1099511 := by omega
      clear ha hat hbt h4 h5 k4 k5 hm1 k1 k2 k3
      go_wp2_with (fail)
      go_must (refine (sametexts_any a.vals A1 B1 m2 c1 c2 _ _ _ (HR1.out.below ((below2 wr _ _).mono hws)) (HR2.out.below ((below2 wr _ _).mono hws)) (by omega)).mono ?_)
      rintro e w3 ⟨rfl, q, hw3⟩
      have hbw : Below wr.heap.size wr w3 := by rw [hw3]; exact belowN (below2 wr _ _) q
      have HE3 := hid (show EntBox w3 w.heap.size ln nm (.slice KA kn kc) (some ad) n c from (hbw.block _ (Array.getElem?_eq_some_iff.1 HE1.out).1).trans HE1.out)
      have HE4 := hid (show EntBox w3 (w.heap.size + 1) ln nm (.slice KB kn kd) (some bd) n d from (hbw.block _ (Array.getElem?_eq_some_iff.1 HE2.out).1).trans HE2.out)
      have HW3 := hid (belowNext HWr.out hbw)
      clear hw3 hbw x3 y3 h1 h2 h3 l1 l2 l3
      go_wp2
      go_roundw
      case rel => exact ⟨k + 1, by omega, by go_num, HE3, HE4, HW3⟩
      case measure => simp [intOf]; omega
    · go_wp2
      go_ret
      exact ⟨rfl, HWr.out⟩

set_option maxHeartbeats 8000000 in
set_option maxRecDepth 100000 in
theorem entryspared_any (KL : List ByteArray) (L : List AttrD) (nm : ByteArray) (ln : Int) (base : Nat) (ku au : Value) (KB B : Option Addr) (kn kd n d : Nat) (w : World) (hcp : CopyAt base w KL L ku au) (hkb : Rd w w.heap.size 1 KB kn (sv KL)) (hkn : kn ≤ 1099511) (hrb : AttrsAt w w.heap.size B n L) (hn : n ≤ 1099511) (hv : ∀ a ∈ L, a.vals.length ≤ 1099511) :
    Calls Tryz.prog 11 #[.agg #[.int .i64 ln, .string nm, ku, au], .agg #[.int .i64 ln, .string nm, .slice KB kn kd, .slice B n d]] w fun e w' => e = .returned (.bool true) ∧ Below w.heap.size w w' := by
  have hl : L.length = n := hrb.1
  have hkl : KL.length = kn := by have := hkb.1; simpa using this
  have HKB := hid hkb
  have HB := hid hrb
  have HV := hid hv
  obtain ⟨kg, kc, g, c, rfl, rfl, hc, hka, hra, hrk, hat, hsp, hgl⟩ := hcp.form
  rw [hl] at hc hra hsp
  rw [hkl] at hka
  have HK := hid hrk
  have HKA := hid hka
  have HRA := hid hra
  have HAT := hid hat
  have HSP := hid hsp
  have HL := hid hl
  have HKL := hid hkl
  clear hkb hrb hv hrk hka hra hat hsp hcp
  rw [hl, hkl]
  clear hl hkl
  have HW := hid (below2 w (.cells #[.int .i64 ln, .string nm, .slice (some ⟨kg, 0, none⟩) kn kc, .slice (some ⟨g, 0, none⟩) n c] 30) (.cells #[.int .i64 ln, .string nm, .slice KB kn kd, .slice B n d] 30))
  go_enter Tryz.func11, Tryz.ntmps11
  go_wp2
  go_loop [5, 6] (fun i _ => ∃ k : Nat, k ≤ n ∧ i = .int .i64 k) (fun i _ => n - (intOf i).toNat)
  case atStart => exact ⟨0, Nat.zero_le _, rfl⟩
  case round =>
    obtain ⟨k, hk, rfl⟩ := hrel
    by_cases hlt : k < n
    · obtain ⟨v, hv1, hv2⟩ := HAT.out k (by have := HL.out; omega)
      obtain ⟨a, ha⟩ : ∃ a, a = L[k]'(by have := HL.out; omega) := ⟨_, rfl⟩
      have hav := HV.out _ (List.getElem_mem (by have := HL.out; omega : k < L.length))
      rw [← ha] at hv2 hav
      obtain ⟨vg, vc, rfl, _, _, _, _, _⟩ := hv2.form
      have hcv : ∀ o p, ((w.alloc o).alloc p).cell? ⟨g, k * 3 + 2, none⟩ = some (.slice (some ⟨vg, 0, none⟩) a.vals.length vc) := fun o p => ((below2 w o p).cell (p := ⟨g, k * 3 + 2, none⟩) hgl).trans hv1
      have HV2 := hid (hv2.below HW.out)
      have i1 : (k : Int) < n := by omega
      clear ha hv1 hv2
      go_wp2_with (go_at_call 10; go_must (refine (spared_any a.vals base _ _ HV2.out hav).mono ?_); rintro e w3 ⟨rfl, rfl⟩)
      go_round
      case rel => exact ⟨k + 1, by omega, by go_num⟩
      case measure => simp [intOf]; omega
    · have hk2 : k = n := by omega
      subst hk2
      have i1 : ((k : Int) + 1).toNat = k + 1 := by omega
      go_wp2_with (fail)
      go_must (refine (sameentry_any KL L nm ln (some ⟨kg, 0, none⟩) KB (some ⟨g, 0, none⟩) B kn kc kd k c d _ (HKA.out.up HW.out) (HKB.out.up HW.out) hkn (HRA.out.up HW.out) (HB.out.up HW.out) hn HV.out).mono ?_)
      rintro e w3 ⟨rfl, hb3⟩
      have HE3 := hid (show EntBox w3 w.heap.size ln nm (.slice (some ⟨kg, 0, none⟩) kn kc) (some ⟨g, 0, none⟩) k c from (hb3.block _ (by simp; omega)).trans (heap_alloc2_old _ _ _))
      have HW3 := hid (belowNext HW.out hb3)
      have HK3 := hid (show Roomy KL base w3 (.slice (some ⟨kg, 0, none⟩) kn kc) by have := HK.out.below HW3.out; rwa [HKL.out] at this)
      have hsp3 : w3.cell? ⟨g, k * 3, none⟩ = some (.string ⟨#[115, 112, 97, 114, 101, 32, 114, 111, 111, 109]⟩) := (HW3.out.cell (p := ⟨g, k * 3, none⟩) hgl).trans HSP.out
      obtain ⟨x0, x1, x2, x3, _, _⟩ := HE3.out.facts
      have i2 : (k : Int) < ((k + 1 : Nat) : Int) := by omega
      clear hb3
      go_wp2_with (go_at_call 10; go_must (refine (spared_any KL base _ _ HK3.out (by have := HKL.out; omega)).mono ?_); rintro e w4 ⟨rfl, rfl⟩)
      go_ret
      exact ⟨rfl, HW3.out⟩
end Go.Proofs.YtfojfohfhomhbaaGreatDoor

namespace Go.Proofs.YtfojfohfhomhbaaGreatDoor
open Go.RowKit

set_option maxHeartbeats 3200000 in
set_option maxRecDepth 100000 in
theorem samenode_any (n : NodeD) (L : List ByteArray) (A B : Option Addr) (k c d K M : Nat) (w : World) (hra : Rd w K 1 A k (sv L)) (hrb : Rd w M 1 B k (sv L)) (hK : K ≤ w.heap.size) (hM : M ≤ w.heap.size) (hn : k ≤ 1099511) :
    Calls Tryz.prog 9 #[nodeV n A k c, nodeV n B k d] w fun e w' => e = .returned (.bool true) ∧ Below w.heap.size w w' := by
  rw [nodeF, nodeF]
  have HA := hid hra
  have HB := hid hrb
  clear hra hrb
  go_enter Tryz.func9, Tryz.ntmps9
  go_wp2_with (fail)
  go_must (refine (sametexts_any L A B k c d K M _ (HA.out.below ((below2 w _ _).mono hK)) (HB.out.below ((below2 w _ _).mono hM)) (by omega)).mono ?_)
  rintro e w1 ⟨rfl, q, rfl⟩
  go_wp2
  go_ret
  exact ⟨rfl, belowN (below2 w _ _) q⟩
end Go.Proofs.YtfojfohfhomhbaaGreatDoor
