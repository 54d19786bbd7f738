/- Walks: the reference's IsType, IsDesc. Walks: the reference's IsDesc, goes, place, Fold. Walks: the reference's place of a fault (only that it ends). Walks: the reference's reading of a description, whole. -/
import Derived.Test.YtfojfohfhomhbaaGreatDoorMa
import Derived.Test.YtfojfohfhomhbaaGreatDoorMb
import Derived.Test.YtfojfohfhomhbaaGreatDoorMn
import Derived.Test.YtfojfohfhomhbaaGreatDoorMg
import Derived.Deep.DeepMust
namespace Go.Proofs.YtfojfohfhomhbaaGreatDoor
open Go.RowKit

theorem isTypeL_yes {l : List UInt8} {c : UInt8} (h : l.head? = some c) (h1 : letterC c = true) : isTypeL l = keysB l := by
  cases l with
  | nil => cases h
  | cons x l => obtain rfl : x = c := by simpa using h
                simp [isTypeL, h1]
theorem isTypeL_no {l : List UInt8} {c : UInt8} (h : l.head? = some c) (h1 : letterC c = false) : isTypeL l = (((spl 46 l).1 :: (spl 46 l).2).all numB && decide (1 < ((spl 46 l).1 :: (spl 46 l).2).length)) := by
  cases l with
  | nil => cases h
  | cons x l => obtain rfl : x = c := by simpa using h
                simp [isTypeL, h1]
theorem letter_yes {s : ByteArray} (hp : 0 < s.size) (h : ((97 : Int) ≤ s[0].toNat ∧ (s[0].toNat : Int) ≤ 122) ∨ ((65 : Int) ≤ s[0].toNat ∧ (s[0].toNat : Int) ≤ 90)) : isTypeL (byt s) = keysB (byt s) :=
  isTypeL_yes (head_byt hp) (by rw [← letN_of]; simpa [letN] using h)
theorem letter_no {s : ByteArray} (hp : 0 < s.size) (h : (s[0].toNat : Int) < 65 ∨ ((90 : Int) < s[0].toNat ∧ (s[0].toNat : Int) < 97) ∨ (122 : Int) < s[0].toNat) :
    isTypeL (byt s) = (((pieces 46 s).map byt).all numB && decide (1 < (pieces 46 s).length)) := by
  rw [isTypeL_no (head_byt hp) (by rw [← letN_of]; simp [letN]; omega)]
  have e1 : (pieces 46 s).map byt = (spl 46 (byt s)).1 :: (spl 46 (byt s)).2 := by simp [pieces, Function.comp_def]
  rw [e1, ← e1]; simp

theorem all_take_succ {α : Type} {p : α → Bool} {l : List α} {k : Nat} (h : k < l.length) (h0 : (l.take k).all p = true) (h1 : p l[k] = true) : (l.take (k + 1)).all p = true := by
  rw [List.take_succ_eq_append_getElem h, List.all_append, h0]; simp [h1]
theorem all_get_not {α : Type} {p : α → Bool} {l : List α} {k : Nat} (h : k < l.length) (h1 : p l[k] = false) : l.all p = false := by
  rw [List.all_eq_false]; exact ⟨l[k], List.getElem_mem h, by simp [h1]⟩
theorem all_take_done {α : Type} {p : α → Bool} {l : List α} {k : Nat} (h : ¬ k < l.length) (h0 : (l.take k).all p = true) : l.all p = true := by
  rwa [List.take_of_length_le (by omega)] at h0

set_option maxHeartbeats 1600000 in
theorem istype_any (s : ByteArray) (w : World) (hs : s.size ≤ 1099511627776) : Calls Tryz.prog 144 #[.string s] w fun e w' => e = .returned (.bool (isTypeL (byt s))) ∧ Below w.heap.size w w' := by
  by_cases h0 : s.toList = []
  · go_enter Tryz.func144, Tryz.ntmps144
    have H := hid h0
    go_wp2
    go_ret
    exact ⟨retB (by have := H.out; rw [toL] at this; rw [this]; rfl), Below.refl _ _⟩
  · have hp := byt_pos h0
    have h0' : (s.toList == []) = false := by simpa using h0
    rcases (show ((97 : Int) ≤ s[0].toNat ∧ (s[0].toNat : Int) ≤ 122) ∨ ((65 : Int) ≤ s[0].toNat ∧ (s[0].toNat : Int) ≤ 90) ∨ (s[0].toNat : Int) < 65 ∨ ((90 : Int) < s[0].toNat ∧ (s[0].toNat : Int) < 97) ∨ (122 : Int) < s[0].toNat by omega) with h | h | h | h | h
    iterate 2
      · have H := hid (letter_yes hp (by omega))
        have h1 := h.1
        have h2 := h.2
        clear h
        go_enter Tryz.func144, Tryz.ntmps144
        go_wp2_with (go_at_call 143; refine (keys_any _ _ hs).mono ?_; rintro e w' ⟨rfl, rfl⟩)
        go_ret
        exact ⟨retB H.out.symm, Below.refl _ _⟩
    all_goals
      have H := hid (letter_no hp (by omega))
      have hp1 : 1 ≤ (pieces 46 s).length := by rw [pieces_length]; omega
      have hp2 : (pieces 46 s).length ≤ 1099511627777 := by have := (spl_le 46 (byt s)).1; rw [byt_len] at this; rw [pieces_length]; omega
      try have h1 := h.1
      try have h2 := h.2
      go_enter Tryz.func144, Tryz.ntmps144
      go_wp2_with (go_at_call 92; refine (parts_any 46 46 rfl s _ hs).mono ?_; rintro e w1 ⟨A, cp, rfl, hcp, hr, hb⟩)
      obtain ⟨ad, rfl, hadb, hcell⟩ := hr.2 (by omega)
      have Hc := hid hcell
      clear hcell hr
      go_loop [4, 5] (fun i _ => ∃ k : Nat, k ≤ (pieces 46 s).length ∧ i = .int .i64 k ∧ Hid ((((pieces 46 s).map byt).take k).all numB = true)) (fun i _ => (pieces 46 s).length - (intOf i).toNat)
      case atStart => exact ⟨0, Nat.zero_le _, rfl, hid (by simp)⟩
      case round =>
        obtain ⟨k, hk, rfl, Hk⟩ := hrel
        by_cases hlt : k < (pieces 46 s).length
        · have hcx : w1.cell? (ad.add k) = some (.string (pieces 46 s)[k]) := Hc.out k _ (by simp [sv, hlt])
          have hsz : (pieces 46 s)[k].size ≤ 1099511627776 := Nat.le_trans (pieces_size (List.getElem_mem hlt)) hs
          have hg : ((pieces 46 s).map byt)[k]'(by simpa using hlt) = byt (pieces 46 s)[k] := by simp
          obtain ⟨t, ht⟩ : ∃ t, t = (pieces 46 s)[k] := ⟨_, rfl⟩
          rw [← ht] at hcx hsz hg
          have Ht := hid ht
          have Hg := hid hg
          clear ht hg
          go_wp2_with (go_at_call 183; refine (number_any _ _ hsz).mono ?_; rintro e w' ⟨rfl, rfl⟩)
          · have hb1 : numB (byt t) = false := nb1 (by assumption)
            have hn : ((pieces 46 s).map byt).all numB = false := all_get_not (k := k) (by simpa using hlt) (by rw [Hg.out]; exact hb1)
            go_ret
            exact ⟨retB (by rw [H.out, hn]; rfl), hb⟩
          · have hb1 : numB (byt t) = true := nb0 (by assumption)
            go_round
            case rel => exact ⟨k + 1, by omega, by go_num, hid (all_take_succ (by simpa using hlt) Hk.out (by rw [Hg.out]; exact hb1))⟩
            case measure => simp [intOf]; omega
        · have hn := hid (all_take_done (by simpa using hlt) Hk.out)
          go_wp2
          go_ret
          exact ⟨retB (by rw [H.out, hn.out]; simp; try omega), hb⟩
end Go.Proofs.YtfojfohfhomhbaaGreatDoor

namespace Go.Proofs.YtfojfohfhomhbaaGreatDoor
open Go.RowKit

theorem pieces_cons (c : UInt8) (s : ByteArray) : pieces c s = bs (spl c (byt s)).1 :: (spl c (byt s)).2.map bs := rfl
theorem pieces_tail (c : UInt8) (s : ByteArray) : ((pieces c s).drop 1).map byt = (spl c (byt s)).2 := by simp [pieces_cons, Function.comp_def]
theorem isDesc_of (s : ByteArray) (h0 : 0 < (pieces 59 s).length) : isDescL (byt s) = ((((pieces 59 s).map byt).drop 1).all keysB && isTypeL (byt (pieces 59 s)[0])) := by
  simp [pieces_cons, isDescL, Function.comp_def]

set_option maxHeartbeats 1600000 in
theorem isdesc_any (s : ByteArray) (w : World) (hs : s.size ≤ 1099511627776) : Calls Tryz.prog 90 #[.string s] w fun e w' => e = .returned (.bool (isDescL (byt s))) ∧ Below w.heap.size w w' := by
  have hp1 : 0 < (pieces 59 s).length := by rw [pieces_length]; omega
  have hp2 : (pieces 59 s).length ≤ 1099511627777 := by have := (spl_le 59 (byt s)).1; rw [byt_len] at this; rw [pieces_length]; omega
  have H := hid (isDesc_of s hp1)
  go_enter Tryz.func90, Tryz.ntmps90
  go_wp2_with (go_at_call 92; refine (parts_any 59 59 rfl s _ hs).mono ?_; rintro e w1 ⟨A, cp, rfl, hcp, hr, hb⟩)
  obtain ⟨ad, rfl, hadb, hcell⟩ := hr.2 (by omega)
  have Hc := hid hcell
  clear hcell hr
  go_loop [4, 5] (fun i _ => ∃ k : Nat, 1 ≤ k ∧ k ≤ (pieces 59 s).length ∧ i = .int .i64 k ∧ Hid (((((pieces 59 s).map byt).drop 1).take (k - 1)).all keysB = true)) (fun i _ => (pieces 59 s).length - (intOf i).toNat)
  case atStart => exact ⟨1, by omega, by omega, rfl, hid (by simp)⟩
  case round =>
    obtain ⟨k, hk1, hk, rfl, Hk⟩ := hrel
    by_cases hlt : k < (pieces 59 s).length
    · have hcx : w1.cell? (ad.add k) = some (.string (pieces 59 s)[k]) := Hc.out k _ (by simp [sv, hlt])
      have hsz : (pieces 59 s)[k].size ≤ 1099511627776 := Nat.le_trans (pieces_size (List.getElem_mem hlt)) hs
      have hl : k - 1 < (((pieces 59 s).map byt).drop 1).length := by simp; omega
      have hg : (((pieces 59 s).map byt).drop 1)[k - 1] = byt (pieces 59 s)[k] := by
        simp only [List.getElem_drop, List.getElem_map, show 1 + (k - 1) = k by omega]
      obtain ⟨t, ht⟩ : ∃ t, t = (pieces 59 s)[k] := ⟨_, rfl⟩
      rw [← ht] at hcx hsz hg
      have Ht := hid ht
      have Hg := hid hg
      clear ht hg
      go_wp2_with (go_at_call 143; refine (keys_any _ _ hsz).mono ?_; rintro e w' ⟨rfl, rfl⟩)
      · have hb1 : keysB (byt t) = false := nb1 (by assumption)
        have hn := all_get_not (p := keysB) hl (by rw [Hg.out]; exact hb1)
        go_ret
        exact ⟨retB (by rw [H.out, hn]; rfl), hb⟩
      · have hb1 : keysB (byt t) = true := nb0 (by assumption)
        have Hn := hid (all_take_succ (p := keysB) hl Hk.out (by rw [Hg.out]; exact hb1))
        rw [show k - 1 + 1 = k + 1 - 1 by omega] at Hn
        go_round
        case rel => exact ⟨k + 1, by omega, by omega, by go_num, Hn⟩
        case measure => simp [intOf]; omega
    · have hn := hid (all_take_done (p := keysB) (l := ((pieces 59 s).map byt).drop 1) (k := k - 1) (by simp; omega) Hk.out)
      have hcx : w1.cell? ad = some (.string (pieces 59 s)[0]) := by simpa [Addr.add] using Hc.out 0 _ (by simp [sv, hp1])
      have hsz : (pieces 59 s)[0].size ≤ 1099511627776 := Nat.le_trans (pieces_size (List.getElem_mem hp1)) hs
      obtain ⟨t, ht⟩ : ∃ t, t = (pieces 59 s)[0] := ⟨_, rfl⟩
      rw [← ht] at hcx hsz
      have Ht := hid ht
      clear ht
      go_wp2_with (go_at_call 144; refine (istype_any _ _ hsz).mono ?_; rintro e w2 ⟨rfl, hb2⟩)
      go_ret
      exact ⟨retB (by rw [H.out, hn.out, Ht.out]; rfl), belowNext hb hb2⟩
end Go.Proofs.YtfojfohfhomhbaaGreatDoor

namespace Go.Proofs.YtfojfohfhomhbaaGreatDoor
open Go.RowKit

def endsC : Array Value := #[.string ⟨#[]⟩, .string ⟨#[97]⟩, .string ⟨#[49]⟩, .string ⟨#[46, 49]⟩]
theorem endsAt {k : Nat} (h : k < 4) : ∃ x : ByteArray, x.size ≤ 2 ∧ endsC[k]? = some (.string x) := by
  rcases (show k = 0 ∨ k = 1 ∨ k = 2 ∨ k = 3 by omega) with rfl | rfl | rfl | rfl
  · exact ⟨⟨#[]⟩, by decide, rfl⟩
  · exact ⟨⟨#[97]⟩, by decide, rfl⟩
  · exact ⟨⟨#[49]⟩, by decide, rfl⟩
  · exact ⟨⟨#[46, 49]⟩, by decide, rfl⟩
def EndsPost (w : World) (e : Ending) (w' : World) : Prop := ∃ b : Bool, e = .returned (.bool b) ∧ Below w.heap.size w w'

set_option maxHeartbeats 1600000 in
set_option maxRecDepth 100000 in
theorem goes_any (s : ByteArray) (alone : Bool) (w : World) (hs : s.size ≤ 1099511627700) : Calls Tryz.prog 145 #[.string s, .bool alone] w (EndsPost w) := by
  go_enter Tryz.func145, Tryz.ntmps145
  go_wp2
  go_loopw [6, 7, 8] (fun i _ _ wr => ∃ k : Nat, k ≤ 4 ∧ i = .int .i64 k ∧ Hid (wr.heap[w.heap.size]? = some (.cells endsC 205 (0, 0))) ∧ Below w.heap.size w wr) (fun i _ _ _ => 4 - (intOf i).toNat)
  case atStart => exact ⟨0, Nat.zero_le _, rfl, hid (heap_alloc_new _ _), (Below.refl _ _).alloc (Nat.le_refl _) _⟩
  case round =>
    obtain ⟨k, hk, rfl, HC, hb⟩ := hrel
    by_cases hlt : k < 4
    · obtain ⟨x, hx, hcx⟩ := endsAt hlt
      have c0 := (blkCell HC.out k).trans hcx
      have hlt2 := blkLt HC.out
      have hsz : (s ++ x).size ≤ 1099511627776 := by rw [ByteArray.size_append]; omega
      clear hcx
      cases alone with
      | true =>
        go_wp2_with (go_at_call 144; refine (istype_any _ _ hsz).mono ?_; rintro e w1 ⟨rfl, hb1⟩)
        · go_ret
          exact ⟨_, rfl, belowNext hb hb1⟩
        · go_roundw
          case rel => exact ⟨k + 1, by omega, by go_num, hid ((hb1.block _ hlt2).trans HC.out), belowNext hb hb1⟩
          case measure => simp [intOf]; omega
      | false =>
        go_wp2_with (go_at_call 90; refine (isdesc_any _ _ hsz).mono ?_; rintro e w1 ⟨rfl, hb1⟩)
        · go_ret
          exact ⟨_, rfl, belowNext hb hb1⟩
        · go_roundw
          case rel => exact ⟨k + 1, by omega, by go_num, hid ((hb1.block _ hlt2).trans HC.out), belowNext hb hb1⟩
          case measure => simp [intOf]; omega
    · go_wp2
      go_ret
      exact ⟨_, rfl, hb⟩

set_option maxHeartbeats 1600000 in
theorem place_any (s : ByteArray) (alone : Bool) (w : World) (hs : s.size ≤ 1099511627700) : Calls Tryz.prog 91 #[.string s, .bool alone] w fun e w' => ∃ p : Int, e = .returned (.int .i64 p) ∧ Below w.heap.size w w' := by
  go_enter Tryz.func91, Tryz.ntmps91
  go_wp2
  go_loopw [5, 6, 7, 8] (fun lo hi _ _ wr => ∃ l h : Nat, l ≤ h ∧ h ≤ s.size ∧ lo = .int .i64 l ∧ hi = .int .i64 h ∧ Below w.heap.size w wr) (fun lo hi _ _ _ => (intOf hi).toNat - (intOf lo).toNat)
  case atStart => exact ⟨0, s.size, Nat.zero_le _, Nat.le_refl _, rfl, rfl, Below.refl _ _⟩
  case round =>
    obtain ⟨l, h, hlh, hh, rfl, rfl, hb⟩ := hrel
    by_cases hlt : l < h
    · obtain ⟨m, hm⟩ : ∃ m : Nat, m = (l + h + 1) / 2 := ⟨_, rfl⟩
      have hq : ((l : Int) + h + 1).tdiv 2 = (m : Int) := by rw [Int.tdiv_eq_ediv_of_nonneg (by omega)]; omega
      have hm1 : l < m := by omega
      have hm2 : m ≤ h := by omega
      have hsz : (s.extract 0 m).size ≤ 1099511627700 := by rw [ByteArray.size_extract]; omega
      clear hm
      go_wp2_with (go_at_call 145; refine (goes_any _ _ _ hsz).mono ?_; rintro e w1 ⟨b, rfl, hb1⟩)
      all_goals clear hq
      · go_roundw
        case rel => exact ⟨m, h, hm2, hh, rfl, rfl, belowNext hb hb1⟩
        case measure => simp [intOf]; omega
      · go_roundw
        case rel => exact ⟨l, m - 1, by omega, by omega, rfl, by rw [show ((m : Int) - 1) = ((m - 1 : Nat) : Int) by omega], belowNext hb hb1⟩
        case measure => simp [intOf]; omega
    · go_wp2
      go_ret
      exact ⟨_, rfl, hb⟩
end Go.Proofs.YtfojfohfhomhbaaGreatDoor

namespace Go.Proofs.YtfojfohfhomhbaaGreatDoor
open Go.RowKit

theorem cellOther {w : World} {a p : Addr} {v : Value} (h : p.block ≠ a.block) : (w.setCell a v).cell? p = w.cell? p := by
  simp only [World.cell?, heap_setCell_other _ _ _ _ h]
theorem Rd.set {w : World} {K n : Nat} {A : Option Addr} {xs : List Value} {a : Addr} {v : Value} (h : Rd w K 1 A n xs) (hA : ∀ ad, A = some ad → ad.block ≠ a.block) : Rd (w.setCell a v) K 1 A n xs := by
  refine ⟨h.1, fun hn => ?_⟩
  obtain ⟨ad, e, hb, hc⟩ := h.2 hn
  exact ⟨ad, e, hb, fun j u hu => (cellOther (by rw [addBlock]; exact hA ad e)).trans (hc j u hu)⟩
theorem rparDone {s : ByteArray} {w w5 w' : World} {A' : Option Addr} {n c g : Nat} {p : Int} {a b d : Value} (hw : w' = (((w5.setCell ⟨g, 1, none⟩ a).setCell ⟨w.heap.size, 0, none⟩ b).setCell ⟨w.heap.size, 1, none⟩ d)) (hr : Rd w5 w5.heap.size 1 A' n (sv (sortS (optsS s)))) (hn : n = (sortS (optsS s)).length)
    (hA : ∀ ad, A' = some ad → g + 1 ≤ ad.block) (hg : w.heap.size < g) (hb : Below w.heap.size w w5) : RParYes s w (.returned (.tuple #[.agg #[.string (canonS (headS s)), .slice A' n c], .int .i64 0, .int .i64 p])) w' := by
  subst hw
  refine ⟨A', n, c, sortS (optsS s), p, rfl, ?_, ?_, fun t => sortS_mem, sortS_rising _, ((hb.setCell (by simp; omega) _).setCell (Nat.le_refl _) _).setCell (Nat.le_refl _) _⟩
  · have := sortS_length (optsS s)
    have := opts_le s
    omega
  · have h1 := ((hr.set (a := ⟨g, 1, none⟩) (v := a) (fun ad e => by have := hA ad e; simp; omega)).set (a := ⟨w.heap.size, 0, none⟩) (v := b) (fun ad e => by have := hA ad e; simp; omega)).set (a := ⟨w.heap.size, 1, none⟩) (v := d) (fun ad e => by have := hA ad e; simp; omega)
    simpa using h1

set_option maxHeartbeats 1600000 in
set_option maxRecDepth 100000 in
theorem rparse_no (s : ByteArray) (w : World) (hs : s.size ≤ 1099511) (hd : descB s = false) : Calls Tryz.prog 45 #[.string s] w (ParNo w) := by
  have hd2 : isDescL (byt s) = false := by rw [← descB_split]; exact hd
  clear hd
  go_enter Tryz.func45, Tryz.ntmps45
  go_wp2_with (first
    | (go_at_call 90; refine (isdesc_any _ _ (by omega)).mono ?_; rintro e w1 ⟨rfl, hb1⟩)
    | (go_at_call 91; refine (place_any _ _ _ (by omega)).mono ?_; rintro e w2 ⟨p, rfl, hb2⟩
       have HG := hid (DescAt.up (DescAt.up (show DescAt (w.alloc _) w.heap.size _ _ from heap_alloc_new _ _) hb1) hb2)
       have HB := hid (((below1 w _).trans (hb1.mono (by simp))).trans (hb2.mono (Nat.le_trans (by simp) hb1.size)))
       obtain ⟨c0, c1, f0, f1⟩ := HG.out.facts
       clear hb1 hb2))
  exact descEnd rfl rfl HG.out ⟨p, rfl, (HB.out.setCell (Nat.le_refl _) _).setCell (Nat.le_refl _) _⟩

set_option maxHeartbeats 4000000 in
set_option maxRecDepth 100000 in
theorem rparse_yes (s : ByteArray) (w : World) (hs : s.size ≤ 1099511) (hd : descB s = true) : Calls Tryz.prog 45 #[.string s] w (RParYes s w) := by
  have hd2 : isDescL (byt s) = true := by rw [← descB_split]; exact hd
  clear hd
  obtain ⟨n, hn⟩ : ∃ n, n = (pieces 59 s).length := ⟨_, rfl⟩
  have hparts : ∀ w1 : World, Calls Tryz.prog 92 #[.string s, .int .u8 59] w1 fun e w' => ∃ A cp, e = .returned (.slice A n cp) ∧ n ≤ cp ∧ Rd w' w'.heap.size 1 A n (sv (pieces 59 s)) ∧ Below w1.heap.size w1 w' := fun w1 => by
    rw [hn]; exact parts_any 59 59 rfl s w1 (by omega)
  have hn1 : 1 ≤ n := by rw [hn, pieces_length]; omega
  have hnl : n - 1 ≤ s.size := by have h2 := (spl_le 59 (byt s)).1; rw [byt_len] at h2; rw [hn, pieces_length]; omega
  have hhl : (headS s).size ≤ 1099511627776 := by have := head_le s; omega
  have HN := hid hn
  have HPA := hid hparts
  clear hn hparts
  go_enter Tryz.func45, Tryz.ntmps45
  go_wp2_with (first
    | (go_at_call 90; refine (isdesc_any _ _ (by omega)).mono ?_; rintro e w1 ⟨rfl, hb1⟩
       have HB1 := hid ((below1 w _).trans (hb1.mono (by simp)))
       have HG1 := hid (DescAt.up (show DescAt (w.alloc _) w.heap.size _ _ from heap_alloc_new _ _) hb1)
       clear hb1)
    | (go_at_call 92; refine (HPA.out _).mono ?_; rintro e w2 ⟨A, cp, rfl, hcp, hr, hb2⟩
       have HB2 := hid (belowNext HB1.out hb2)
       have HG2 := hid (HG1.out.up hb2)
       have HP := hid hr
       obtain ⟨ad, rfl, hadb, _⟩ := hr.2 (by omega)
       have hc0 : ∀ o, (w2.alloc o).cell? ad = some (.string (headS s)) := fun o => by
         obtain ⟨ad3, he, hl3, hc3⟩ := svCell HP.out (show 0 < n by omega)
         injection he with he
         subst he
         rw [(below1 w2 o).cell hadb]
         simpa [Addr.add, head_piece] using hc3
       clear hb2 hr)
    | (go_at_call 93; refine (canon_any _ _ hhl).mono ?_; rintro e w3 ⟨rfl, hb3⟩
       have HB3 := hid ((below1 w2 _).trans (hb3.mono (by simp)))
       have HD3 := hid (DescAt.up (show DescAt (w2.alloc _) w2.heap.size _ _ from heap_alloc_new _ _) hb3)
       obtain ⟨c0, c1, f0, f1⟩ := HD3.out.facts
       clear hb3 hc0))
  have HRL := hid (Array.getElem?_eq_some_iff.1 HG2.out).1
  have hpl : (pieces 59 s).length = n := HN.out.symm
  have HPL := hid hpl
  clear hpl hd2
  go_loopw [8, 9, 10] (fun o i _ wr => ∃ k : Nat, 1 ≤ k ∧ k ≤ n ∧ i = .int .i64 k ∧ wr.ownsRow (w2.heap.size + 1) 9 1 o (k - 1) (sv ((optsS s).take (k - 1))) ∧ Hid (DescAt wr w2.heap.size (.string (canonS (headS s))) (.slice none 0 0)) ∧ Hid (Below w2.heap.size w2 wr)) (fun _ i _ _ => n - (intOf i).toNat)
  case atStart => exact ⟨1, Nat.le_refl _, hn1, rfl, by simpa [sv] using World.ownsRow_nil _ _ _ _, hid (blkSet HD3.out 0 _), hid (HB3.out.setCell (Nat.le_refl _) _)⟩
  case round =>
    clear HB3 HD3 c0 c1 f0 f1
    obtain ⟨k, hk1, hk, rfl, hown, HD, HB⟩ := hrel
    have hdl := (Array.getElem?_eq_some_iff.1 HD.out).1
    by_cases hlt : k < n
    · obtain ⟨ad2, he, hka, hca⟩ := svCell (HP.out.below HB.out) hlt
      injection he with he
      subst he
      obtain ⟨t, ht⟩ : ∃ t, t = (pieces 59 s)[k] := ⟨_, rfl⟩
      have hts : t.size ≤ s.size := by rw [ht]; exact pieces_size (List.getElem_mem hka)
      rw [← ht] at hca
      have HT := hid (show (optsS s).take k = (optsS s).take (k - 1) ++ [foldS t] by rw [ht]; exact opts_at hk1 hka)
      clear ht hka
      go_wp2_with (first
        | (go_at_call 75; refine (rfold_any _ _ (by omega)).mono ?_; rintro e w4 ⟨rfl, hb4⟩
           have hown4 := ownsBelow hown hb4
           have hsz4 := hb4.size
           have HD4 := hid (HD.out.up hb4)
           have HB4 := hid (belowNext HB.out hb4)
           clear hb4 hown)
        | (at_builtin; go_must (refine app2 rfl _ _ 23 rfl (w2.heap.size + 1) 9 _ 16 Tryz.underlying23 info_str rfl _ _ _ rfl hown4 rfl rfl (by omega) (by omega) (by omega) ?_)
           intro v5 w5 hown5 hb5
           have HD5 := hid (show DescAt w5 w2.heap.size _ _ from (hb5.block _ (by omega)).trans HD4.out)
           have HB5 := hid (HB4.out.trans (hb5.mono (by omega)))
           clear hb5 hown4))
      go_roundw
      case rel => exact ⟨k + 1, by omega, by omega, by go_num, by rw [show k + 1 - 1 = k by omega, HT.out, sv_snoc]; rwa [show k - 1 + 1 = k by omega] at hown5, HD5, HB5⟩
      case measure => simp [intOf]; omega
    · have hk2 : k = n := by omega
      subst hk2
      have HO := hid (show (optsS s).take (k - 1) = optsS s from List.take_of_length_le (by rw [opts_length]; have := HN.out; rw [pieces_length] at this; omega))
      rw [HO.out] at hown
      obtain ⟨A2, c2, rfl, hc2⟩ := ownForm hown
      have HOW := hid hown
      have hhl0 : w.heap.size < w2.heap.size := HRL.out
      clear hown
      go_wp2_with (go_at_call 94; go_must (refine (sorted_any (k - 1) (optsS s) _ _ _ _ (Nat.le_refl _) hc2 (by omega) (Rd.ofOwn HOW.out)).mono ?_)
                   rintro e w5 ⟨A', n', c', rfl, hc', hn', hr', hA', hb5⟩
                   have HD5 := hid (HD.out.up hb5)
                   have HB5 := hid (belowNext HB.out hb5)
                   have HR5 := hid (show DescAt w5 w.heap.size _ _ from (HB5.out.block _ HRL.out).trans HG2.out)
                   have HRR := hid hr'
                   have HN' := hid hn'
                   have HA' := hid (fun (ad : Addr) (e : A' = some ad) => show w2.heap.size + 1 ≤ ad.block from by
                     rcases hA' ad e with h | h
                     · exact ownLe HOW.out ad.block (by rw [h]; rfl)
                     · omega)
                   obtain ⟨d0, d1, e0, e1⟩ := HD5.out.facts
                   obtain ⟨q0, q1, o0, o1⟩ := HR5.out.facts
                   clear hb5 hr' hn' hA')
      exact descEnd rfl rfl (show DescAt _ w.heap.size _ _ from (heap_setCell_other _ _ _ _ (by simp; omega)).trans HR5.out) (rparDone rfl HRR.out HN'.out HA'.out hhl0 (HB2.out.trans (HB5.out.mono (by omega))))
end Go.Proofs.YtfojfohfhomhbaaGreatDoor
