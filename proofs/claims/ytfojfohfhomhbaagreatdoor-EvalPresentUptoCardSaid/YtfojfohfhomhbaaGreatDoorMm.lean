/- Walks: the reference's 'within'. Walks: the reference's super types, by the laid table of kinds. -/
import Derived.Test.YtfojfohfhomhbaaGreatDoorMb
import Derived.Test.YtfojfohfhomhbaaGreatDoorMg
import Derived.Deep.QuietTactic
import Derived.BigQuiet
import Derived.Test.YtfojfohfhomhbaaGreatDoorMd
namespace Go.Proofs.YtfojfohfhomhbaaGreatDoor
open Go.RowKit

def WithPost (a b : List ByteArray) (w : World) (e : Ending) (w' : World) : Prop := ∃ r : Bool, e = .returned (.bool r) ∧ (r = true ↔ ∀ t ∈ a, t ∈ b) ∧ ∃ q, w' = w.drewN q
theorem withNo {a b : List ByteArray} {w : World} {q : Nat} (h : ¬ ∀ t ∈ a, t ∈ b) : WithPost a b w (.returned (.bool false)) (w.drewN q) := ⟨false, rfl, ⟨fun e => by (cases e), fun e => absurd e h⟩, q, rfl⟩
theorem withNo3 {a b : List ByteArray} {w : World} {q r s : Nat} (h : ¬ ∀ t ∈ a, t ∈ b) : WithPost a b w (.returned (.bool false)) (((w.drewN q).drewN r).drewN s) := ⟨false, rfl, ⟨fun e => by (cases e), fun e => absurd e h⟩, q + r + s, by simp [World.drewN, Nat.add_assoc]⟩
theorem withYes {a b : List ByteArray} {w : World} {q : Nat} (h : ∀ t ∈ a, t ∈ b) : WithPost a b w (.returned (.bool true)) (w.drewN q) := ⟨true, rfl, ⟨fun _ => h, fun _ => rfl⟩, q, rfl⟩

set_option maxHeartbeats 3200000 in
set_option maxRecDepth 100000 in
theorem within_any (a b : List ByteArray) (A B : Option Addr) (n m ca cb K L : Nat) (w : World) (hra : Rd w K 1 A n (sv a)) (hrb : Rd w L 1 B m (sv b)) (ha : Rising a) (hb : Rising b) (hn : n ≤ 1099511627777) (hm : m ≤ 1099511627777) :
    Calls Tryz.prog 98 #[.slice A n ca, .slice B m cb] w (WithPost a b w) := by
  have hla : a.length = n := by have := hra.1; simpa using this
  have hlb : b.length = m := by have := hrb.1; simpa using this
  have HA := hid hra
  have HB := hid hrb
  have RA := hid ha
  have RB := hid hb
  clear hra hrb ha hb
  go_enter Tryz.func98, Tryz.ntmps98
  go_wp2
  go_loopw [5, 6] (fun j i wr => ∃ k l q : Nat, k ≤ n ∧ l ≤ m ∧ i = .int .i64 k ∧ j = .int .i64 l ∧ wr = w.drewN q ∧ Hid (WithAt a b k l)) (fun _ i _ => n - (intOf i).toNat)
  case atStart => exact ⟨0, 0, 0, Nat.zero_le _, Nat.zero_le _, rfl, rfl, rfl, hid (WithAt.zero a b)⟩
  case round =>
    obtain ⟨k, l, q, hk, hl, rfl, rfl, rfl, H⟩ := hrel
    by_cases hlt : k < n
    · obtain ⟨ad, rfl, hka, hca⟩ := svCell HA.out hlt
      go_wp2
      go_loopw [5] (fun j wr => ∃ l q : Nat, l ≤ m ∧ j = .int .i64 l ∧ wr = w.drewN q ∧ Hid (WithAt a b k l)) (fun j _ => m - (intOf j).toNat)
      case atStart => exact ⟨l, q, hl, rfl, rfl, H⟩
      case round =>
        clear H hl
        obtain ⟨l, q, hl, rfl, rfl, H⟩ := hrel
        by_cases hlm : l < m
        · obtain ⟨bd, rfl, hlb2, hcb⟩ := svCell HB.out hlm
          obtain ⟨x, hx⟩ : ∃ x, x = a[k] := ⟨_, rfl⟩
          obtain ⟨y, hy⟩ : ∃ y, y = b[l] := ⟨_, rfl⟩
          rw [← hx] at hca
          rw [← hy] at hcb
          have HX := hid hx
          have HY := hid hy
          clear hx hy
          have g0 : decide ((l : Int) < (m : Int)) = true := by simpa using hlm
          have g1 : ((l : Int) == (m : Int)) = false := by simp; omega
          have i1 : (l : Int) < m := by omega
          have i2 : (k : Int) < n := by omega
          have i3 : (0 : Int) ≤ l := by omega
          have i4 : (0 : Int) ≤ k := by omega
          cases hlt2 : Op.bytesLess y.toList x.toList with
          | true =>
            have HN := hid (H.out.skip RA.out hka hlb2 (by rw [← HX.out, ← HY.out]; exact hlt2))
            go_wp2
            go_quiet (fail)
            go_wp2
            go_roundw
            case rel => exact ⟨l + 1, q + nq, by omega, by go_num, rfl, HN⟩
            case measure => simp [intOf]; omega
          | false =>
            cases he : (y.toList == x.toList) with
            | true =>
              have HN := hid (H.out.found hka hlb2 (by rw [← HX.out, ← HY.out]; exact strEq he))
              go_wp2
              go_quiet (fail)
              go_wp2
              go_quiet (fail)
              go_wp2
              go_roundw
              case rel => exact ⟨k + 1, l, _, by omega, by omega, by go_num, rfl, rfl, HN⟩
              case measure => simp [intOf]; omega
            | false =>
              have HN := hid (H.out.miss RB.out hka hlb2 (by rw [← HX.out, ← HY.out]; exact hlt2) (by rw [← HX.out, ← HY.out]; exact strNe he))
              go_wp2
              go_quiet (fail)
              go_wp2
              go_quiet (fail)
              go_wp2
              go_ret
              exact withNo3 HN.out
        · have g0 : decide ((l : Int) < (m : Int)) = false := by simp; omega
          have g1 : ((l : Int) == (m : Int)) = true := by simp; omega
          have HN := hid (H.out.out hka (by omega))
          go_wp2
          go_quiet (fail)
          go_wp2
          go_quiet (fail)
          go_wp2
          go_ret
          exact withNo3 HN.out
    · have hd := hid (H.out.done (by omega))
      clear H
      go_wp2
      go_ret
      exact withYes hd.out
end Go.Proofs.YtfojfohfhomhbaaGreatDoor

namespace Go.Proofs.YtfojfohfhomhbaaGreatDoor
open Go.RowKit

/-- The laid table: of each row its super type's number, its syntax, its use. -/
def KindsAt (w : World) : Prop := 0 < w.heap.size ∧ ∀ i < 62, w.cell? ⟨0, i * 3, none⟩ = some (.int .i64 (row4 i).sup) ∧ w.cell? ⟨0, i * 3 + 1, none⟩ = some (.int .i64 (row4 i).syn) ∧ w.cell? ⟨0, i * 3 + 2, none⟩ = some (.int .i64 (row4 i).op)
theorem KindsAt.below {w w' : World} {K : Nat} (h : KindsAt w) (hK : w.heap.size ≤ K) (hb : Below K w w') : KindsAt w' := by
  have hb := hb.mono hK
  exact ⟨Nat.lt_of_lt_of_le h.1 hb.size, fun i hi => ⟨(hb.cell (p := ⟨0, i * 3, none⟩) h.1).trans (h.2 i hi).1, (hb.cell (p := ⟨0, i * 3 + 1, none⟩) h.1).trans (h.2 i hi).2.1, (hb.cell (p := ⟨0, i * 3 + 2, none⟩) h.1).trans (h.2 i hi).2.2⟩⟩

theorem supI {i : Nat} (h : i < 62) : (row4 i).sup = rowI (supO i) := by
  have h1 : ∀ i < 62, -1 ≤ (row4 i).sup := by decide +kernel
  have := h1 i h
  unfold supO rowI
  by_cases hs : (row4 i).sup < 0
  · simp only [hs, if_true]; omega
  · simp only [hs, if_false]; omega
def rowO (i : Value) : Option Nat := if intOf i < 0 then none else some (intOf i).toNat
theorem rowO_of (o : Option Nat) : rowO (.int .i64 (rowI o)) = o := by
  cases o with
  | none => rfl
  | some i => simp only [rowO, rowI, intOf, show ¬ ((i : Int) < 0) by omega, if_false, Int.toNat_natCast]
set_option maxHeartbeats 1600000 in
set_option maxRecDepth 100000 in
theorem rsupers_any (t : ByteArray) (w : World) (hs : t.size ≤ 1099511627776) (hk : KindsAt w) : Calls Tryz.prog 96 #[.string t] w (SupPost t w) := by
  have HK := hid hk
  clear hk
  go_enter Tryz.func96, Tryz.ntmps96
  cases h : find4 (foldS t) with
  | none =>
    have hi : rowI (find4 (foldS t)) = -1 := by rw [h]; rfl
    have H := hid h
    clear h
    go_wp2_with (first
      | (go_at_call 46; refine (row_any _ _ hs).mono ?_; rintro e w1 ⟨rfl, hb⟩)
      | (go_at_call 75; refine (rfold_any _ _ hs).mono ?_; rintro e w2 ⟨rfl, hb2⟩))
    go_ret
    exact supOne H.out (belowNext hb hb2)
  | some i =>
    have hi : rowI (find4 (foldS t)) = (i : Int) := by rw [h]; rfl
    have hlt := find4_lt h
    have HS := hid (show upS (some i) = supersS t by rw [supersS, h]; rfl)
    clear h
    go_wp2_with (first
      | (go_at_call 46; refine (row_any _ _ hs).mono ?_; rintro e w1 ⟨rfl, hb⟩)
      | (go_at_call 95; refine (names_any _).mono ?_; rintro e w2 ⟨rfl, hb2⟩)
      | (refine wpList_store_row rfl _ _ _ rfl _ namesC rfl rfl 132 _ (heap_alloc_new _ _) (by kernel_rfl) (by kernel_rfl) (by kernel_rfl) ?_))
    simp only [Act.put]
    go_loopw [3, 4] (fun i l wr => ∃ (o : Option Nat) (done : List ByteArray), (∀ i, o = some i → i < 62) ∧ i = .int .i64 (rowI o) ∧
        wr.ownsRow (w2.heap.size + 1) 9 1 l done.length (sv done) ∧ Hid (done ++ upS o = supersS t) ∧ Hid (TabAt wr w2.heap.size) ∧ Below w.heap.size w wr) (fun i _ _ => (upS (rowO i)).length)
    case atStart =>
      exact ⟨some i, [], fun j hj => by injection hj with hj; omega, rfl, World.ownsRow_nil _ _ _ _, HS, hid (setRow_heap _ _ _ _ _ _ (heap_alloc_new _ _)),
        below_setRow ((belowNext hb hb2).alloc (belowNext hb hb2).size _) (belowNext hb hb2).size _⟩
    case round =>
      clear hi hlt HS
      obtain ⟨o, done, ho, rfl, hown, HS, HT, hbr⟩ := hrel
      have hdl : done.length ≤ 3 := by have h1 := congrArg List.length HS.out; have h2 := supers_len t; simp at h1; omega
      have hsz : w.heap.size ≤ w2.heap.size := (belowNext hb hb2).size
      cases o with
      | none =>
        obtain ⟨A, cp, rfl, hcp⟩ := ownForm hown
        have ho2 : rowI none = -1 := rfl
        have hown' := ownsBase hown (show w.heap.size ≤ w2.heap.size + 1 by omega)
        clear ho hown
        go_wp2
        go_ret
        exact supDone HS.out hcp hown' hbr
      | some j =>
        have hj := ho j rfl
        have hx : rowI (some j) = (j : Int) := rfl
        have hse := hid (supI hj)
        have HU := hid (upS_some hj)
        have HL := hid (fun k hk => supO_lt (j := k) hj hk)
        obtain ⟨c0, _, _⟩ := HT.out.cells hj
        have hlt2 : w2.heap.size < wr.heap.size := (Array.getElem?_eq_some_iff.1 HT.out).1
        clear ho
        go_wp2_with (at_builtin; refine app2 rfl _ _ 23 rfl (w2.heap.size + 1) 9 _ 16 Tryz.underlying23 info_str rfl _ _ _ rfl hown rfl rfl (by omega) (by omega) (by omega) ?_; intro v1 w3 hown3 hbr3
                     have HT3 := hid (show TabAt w3 w2.heap.size from (hbr3.block _ (by omega)).trans HT.out)
                     have hb3 : Below w.heap.size w w3 := hbr.trans (hbr3.mono (by omega))
                     have hk3 := ((HK.out.below (Nat.le_refl _) hb3).2 j hj).1
                     rw [hse.out] at hk3
                     have HB3 := hid hb3
                     clear hb3 hbr3 hown)
        go_roundw
        case rel => exact ⟨supO j, done ++ [(row4 j).nm], HL.out, rfl, by rw [sv_snoc]; simpa using hown3, hid (by rw [← HS.out, HU.out]; simp), HT3, HB3.out⟩
        case measure => rw [rowO_of, rowO_of, HU.out]; simp
end Go.Proofs.YtfojfohfhomhbaaGreatDoor
