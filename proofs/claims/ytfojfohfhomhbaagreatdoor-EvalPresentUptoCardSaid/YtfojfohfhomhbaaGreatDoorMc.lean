/- Walks: letters folded, both texts. Walks: the reference's table of attribute types. Walks: the reference's canonical types, super types. Walks: the program's table of attribute types, by name. -/
import Derived.Test.YtfojfohfhomhbaaGreatDoorMb
import Derived.Laws.Tables
import Derived.Laws.CopyOwn
import Derived.Deep.Cut
import Derived.Deep.CutBlock
namespace Go.Proofs.YtfojfohfhomhbaaGreatDoor
open Go.RowKit

theorem lowC_up {c : UInt8} (h1 : (65 : Int) ≤ c.toNat) (h2 : (c.toNat : Int) ≤ 90) : ((lowC c).toNat : Int) = (c.toNat : Int) + 32 := by
  have := allU8 (fun c => !(decide (65 ≤ c.toNat) && decide (c.toNat ≤ 90)) || (lowC c).toNat == c.toNat + 32) (by decide +kernel) c
  simp at this; omega
theorem lowC_same {c : UInt8} (h : ¬ ((65 : Int) ≤ c.toNat ∧ (c.toNat : Int) ≤ 90)) : lowC c = c := by
  have := allU8 (fun c => (decide (65 ≤ c.toNat) && decide (c.toNat ≤ 90)) || lowC c == c) (by decide +kernel) c
  simp only [Bool.or_eq_true, Bool.and_eq_true, decide_eq_true_eq, beq_iff_eq] at this
  exact this.resolve_left (by omega)
theorem u8_lt (c : UInt8) : (c.toNat : Int) < 256 := by have := c.toNat_lt; omega
/-- What is folded of the first k bytes. -/
def foldTo (s : ByteArray) (k : Nat) : List UInt8 := ((byt s).take k).map lowC
theorem foldTo_next (s : ByteArray) (k : Nat) (h : k < s.size) : foldTo s (k + 1) = foldTo s k ++ [lowC s[k]] := by rw [foldTo, byt_snoc s k h, List.map_append]; rfl
theorem foldTo_len (s : ByteArray) (k : Nat) (h : k ≤ s.size) : (foldTo s k).length = k := by simp [foldTo, byt_len]; omega
theorem foldTo_all (s : ByteArray) : bs (foldTo s s.size) = foldS s := by rw [foldTo, byt_all]; rfl

set_option maxHeartbeats 1600000 in
set_option maxRecDepth 100000 in
theorem rfold_any (s : ByteArray) (w : World) (hs : s.size ≤ 1099511627776) : Calls Tryz.prog 75 #[.string s] w fun e w' => e = .returned (.string (foldS s)) ∧ Below w.heap.size w w' := by
  go_enter Tryz.func75, Tryz.ntmps75
  go_wp2
  go_loopw [3, 4, 5] (fun v i _ wr => ∃ k : Nat, k ≤ s.size ∧ i = .int .i64 k ∧ wr.ownsRow w.heap.size 5 1 v k (bv (foldTo s k)) ∧ Below w.heap.size w wr) (fun _ i _ _ => s.size - (intOf i).toNat)
  case atStart => exact ⟨0, Nat.zero_le _, rfl, World.ownsRow_nil _ _ _ _, Below.refl _ _⟩
  case round =>
    obtain ⟨k, hk, rfl, hown, hb⟩ := hrel
    by_cases hlt : k < s.size
    · have hn := hid (foldTo_next s k hlt)
      have h256 := u8_lt s[k]
      by_cases hc : (65 : Int) ≤ s[k].toNat ∧ (s[k].toNat : Int) ≤ 90
      · obtain ⟨h1, h2⟩ := hc
        have hup := hid (lowC_up h1 h2)
        go_wp2_with (at_builtin; refine app1 rfl (.tmp 23) (.tmp 25) 163 rfl 5 _ 1 Tryz.underlying163 info_u8 rfl _ _ _ rfl hown rfl rfl hb (by omega) (by omega) ?_; intro v1 w1 hown1 hb2)
        rw [← hup.out, ← bv_snoc, ← hn.out] at hown1
        clear hown hb
        go_wp2
        go_roundw
        case rel => exact ⟨k + 1, by omega, by go_num, hown1, hb2⟩
        case measure => simp [intOf]; omega
      · have hsm := hid (lowC_same hc)
        rcases (show (s[k].toNat : Int) < 65 ∨ (90 : Int) < s[k].toNat by omega) with hd | hd
        all_goals
          clear hc
          go_wp2_with (at_builtin; refine app1 rfl (.tmp 23) (.tmp 25) 163 rfl 5 _ 1 Tryz.underlying163 info_u8 rfl _ _ _ rfl hown rfl rfl hb (by omega) (by omega) ?_; intro v1 w1 hown1 hb2)
          rw [← bv_snoc, ← hsm.out, ← hn.out] at hown1
          clear hown hb
          go_wp2
          go_roundw
          case rel => exact ⟨k + 1, by omega, by go_num, hown1, hb2⟩
          case measure => simp [intOf]; omega
    · have hk2 : k = s.size := by omega
      subst hk2
      have hconv := convOwn hown 163 9 Tryz.underlying163 Tryz.underlying5 Tryz.underlying9
      go_wp2
      go_ret
      exact ⟨retS (foldTo_all s), hb⟩

/-- What lies in the buffer when k bytes are folded. -/
def foldBuf (s : ByteArray) (k : Nat) : List UInt8 := foldTo s k ++ (byt s).drop k
theorem foldBuf_len (s : ByteArray) (k : Nat) (h : k ≤ s.size) : (foldBuf s k).length = s.size := by simp [foldBuf, foldTo_len s k h, byt_len]; omega
theorem foldBuf_at (s : ByteArray) (k : Nat) (h : k < s.size) : ∀ h' : k < (foldBuf s k).length, (foldBuf s k)[k] = s[k] := by
  intro h'
  have hl := foldTo_len s k (by omega)
  simp only [foldBuf]
  rw [List.getElem_append_right (by omega)]
  simp only [hl, Nat.sub_self, List.getElem_drop, Nat.add_zero]; rfl
theorem foldBuf_set (s : ByteArray) (k : Nat) (h : k < s.size) : (foldBuf s k).set k (lowC s[k]) = foldBuf s (k + 1) := by
  have hl := foldTo_len s k (by omega)
  have hd : (byt s).drop k = s[k] :: (byt s).drop (k + 1) := List.drop_eq_getElem_cons (by rw [byt_len]; exact h)
  rw [foldBuf, foldBuf, foldTo_next s k h, hd, List.set_append_right _ _ (by omega), hl, Nat.sub_self]
  simp
theorem foldBuf_skip (s : ByteArray) (k : Nat) (h : k < s.size) (hc : lowC s[k] = s[k]) : foldBuf s (k + 1) = foldBuf s k := by
  have hd : (byt s).drop k = s[k] :: (byt s).drop (k + 1) := List.drop_eq_getElem_cons (by rw [byt_len]; exact h)
  rw [foldBuf, foldBuf, foldTo_next s k h, hd, hc]; simp

set_option maxHeartbeats 1600000 in
set_option maxRecDepth 100000 in
theorem fold_any (s : ByteArray) (w : World) (hs : s.size ≤ 1099511627776) : Calls Tryz.prog 115 #[.string s] w fun e w' => e = .returned (.string (foldS s)) ∧ Below w.heap.size w w' := by
  have hconv := Lib.run_convert_string_bytes (P := Tryz.prog) w 9 163 5 s Tryz.underlying9 Tryz.underlying163 Tryz.underlying5
  go_enter Tryz.func115, Tryz.ntmps115
  go_wp2
  go_loopw [4, 5, 10] (fun _ _ i wr => ∃ k : Nat, k ≤ s.size ∧ i = .int .i64 k ∧ Buf wr w.heap.size 5 (foldBuf s k) ∧ Below w.heap.size w wr) (fun _ _ i _ => s.size - (intOf i).toNat)
  case atStart => exact ⟨0, Nat.zero_le _, rfl, by simpa [foldBuf, foldTo] using Buf.ofConv w _ s, belowConv w _ s⟩
  case round =>
    obtain ⟨k, hk, rfl, hbuf, hb⟩ := hrel
    have hln := foldBuf_len s k hk
    by_cases hlt : k < s.size
    · have hc1 := hbuf.cell k (by omega)
      have hf1 := hbuf.free k (by omega)
      rw [foldBuf_at s k hlt] at hc1
      have h256 := u8_lt s[k]
      have HB := hid hbuf
      clear hbuf
      by_cases hc : (65 : Int) ≤ s[k].toNat ∧ (s[k].toNat : Int) ≤ 90
      · obtain ⟨h1, h2⟩ := hc
        have hup := hid (lowC_up h1 h2)
        have hput := HB.out.put k (lowC s[k])
        rw [foldBuf_set s k hlt, hup.out] at hput
        have HP := hid hput
        clear hput hln
        go_wp2
        go_roundw
        case rel => exact ⟨k + 1, by omega, by go_num, by have := HP.out; first | exact this | (rw [show (s[k].toNat : Int) + 97 - 65 = (s[k].toNat : Int) + 32 by omega]; exact this), hb.setCell (Nat.le_refl _) _⟩
        case measure => simp [intOf]; omega
      · have hsm := foldBuf_skip s k hlt (lowC_same hc)
        have HP := HB.out
        rw [← hsm] at HP
        have HP2 := hid HP
        clear HP hsm hln
        rcases (show (s[k].toNat : Int) < 65 ∨ (90 : Int) < s[k].toNat by omega) with hd | hd
        all_goals
          clear hc
          go_wp2
          go_roundw
          case rel => exact ⟨k + 1, by omega, by go_num, HP2.out, hb⟩
          case measure => simp [intOf]; omega
    · have hk2 : k = s.size := by omega
      subst hk2
      have hconv2 := fun cap => convBuf (cap := cap) hbuf 163 9 Tryz.underlying163 Tryz.underlying5 Tryz.underlying9
      rw [hln] at hconv2
      clear hln
      go_wp2
      go_ret
      refine ⟨retS ?_, hb⟩
      rw [← foldTo_all, foldBuf, List.drop_of_length_le (by rw [byt_len]; exact Nat.le_refl _), List.append_nil]
end Go.Proofs.YtfojfohfhomhbaaGreatDoor

namespace Go.Proofs.YtfojfohfhomhbaaGreatDoor
open Go.RowKit

def namesC : Array Value := (tab4.flatMap fun r => [Value.string r.nm, Value.string r.al, Value.string r.oid]).toArray
set_option maxHeartbeats 16000000 in
set_option maxRecDepth 100000 in
theorem names_any (w : World) : Calls Tryz.prog 95 #[] w fun e w' => e = .returned (.agg namesC) ∧ Below w.heap.size w w' := by
  go_enter Tryz.func95, Tryz.ntmps95
  go_upto_region 1 with (fail)
  rename_i K hK
  refine wp_region_lit ?_
  iterate 62 refine wpList_build rfl _ _ rfl (by kernel_rfl) ?_
  refine wpList_build rfl _ _ rfl (by kernel_rfl) ?_
  refine wpList_store_row rfl _ _ _ rfl w.heap.size namesC (by kernel_rfl) (by kernel_rfl) 132 _ (heap_alloc_new _ _) (by kernel_rfl) (by kernel_rfl) (by kernel_rfl) ?_
  refine wpList_nil (hK _ _ (wp_ret (bodyPost_ret (results_cell_row rfl _ _ w.heap.size _ namesC _ _ (by kernel_rfl) (setRow_heap _ _ _ _ _ _ (heap_alloc_new _ _)) Tryz.underlying132 rfl (by kernel_rfl)) rfl ⟨rfl, ?_⟩)))
  exact below_setRow ((Below.refl _ _).alloc (Nat.le_refl _) _) (Nat.le_refl _) _

theorem flat3 {α β : Type} (f g h : α → β) : ∀ (l : List α) (i : Nat) (r : α), l[i]? = some r → (l.flatMap fun r => [f r, g r, h r])[3 * i]? = some (f r) ∧ (l.flatMap fun r => [f r, g r, h r])[3 * i + 1]? = some (g r) ∧ (l.flatMap fun r => [f r, g r, h r])[3 * i + 2]? = some (h r)
  | [], i, r, hr => by simp at hr
  | x :: l, 0, r, hr => by simp at hr; subst hr; simp
  | x :: l, i + 1, r, hr => by
    have ih := flat3 f g h l i r (by simpa using hr)
    have e : ∀ k, ((x :: l).flatMap fun r => [f r, g r, h r])[3 * (i + 1) + k]? = (l.flatMap fun r => [f r, g r, h r])[3 * i + k]? := fun k => by
      rw [List.flatMap_cons, show 3 * (i + 1) + k = (3 * i + k) + 3 by omega]; rfl
    exact ⟨(e 0).trans ih.1, (e 1).trans ih.2.1, (e 2).trans ih.2.2⟩
theorem tabAt {i : Nat} (h : i < 62) : tab4[i]? = some (row4 i) := by
  have hl : tab4.length = 62 := by decide +kernel
  rw [row4, List.getD_eq_getElem?_getD, List.getElem?_eq_getElem (by omega)]; rfl
theorem namesAt {i : Nat} (h : i < 62) : namesC[3 * i]? = some (.string (row4 i).nm) ∧ namesC[3 * i + 1]? = some (.string (row4 i).al) ∧ namesC[3 * i + 2]? = some (.string (row4 i).oid) := by
  simp only [namesC, List.getElem?_toArray]
  exact flat3 _ _ _ tab4 i _ (tabAt h)
def rowI (o : Option Nat) : Int := match o with
  | some i => (i : Int)
  | none => -1
theorem find_step {t : ByteArray} {k : Nat} (hk : k < 62) (h0 : ∀ i < k, names4 i t = false) : (names4 k t = true → find4 t = some k) ∧ (names4 k t = false → ∀ i < k + 1, names4 i t = false) := by
  refine ⟨fun h => ?_, fun h i hi => ?_⟩
  · unfold find4
    have e : List.range 62 = List.range k ++ (k :: (List.range 62).drop (k + 1)) := by
      have h1 : (List.range 62).drop k = k :: (List.range 62).drop (k + 1) := by rw [List.drop_eq_getElem_cons (by simpa using hk)]; simp
      have h2 := List.take_append_drop k (List.range 62)
      rw [List.take_range, Nat.min_eq_left (by omega)] at h2
      rw [← h1, h2]
    rw [e, List.find?_append, List.find?_eq_none.2 (fun i hi => by rw [h0 i (List.mem_range.1 hi)]; simp), List.find?_cons, h]; rfl
  · by_cases e : i = k
    · subst e; exact h
    · exact h0 i (by omega)
theorem find_none {t : ByteArray} (h : ∀ i < 62, names4 i t = false) : find4 t = none := List.find?_eq_none.2 fun i hi => by rw [h i (List.mem_range.1 hi)]; simp

/-- What 'row' knows of the table's block. -/
def TabAt (w : World) (g : Nat) : Prop := w.heap[g]? = some (.cells namesC 132 (0, 0))
theorem TabAt.cells {w : World} {g i : Nat} (h : TabAt w g) (hi : i < 62) : w.cell? ⟨g, i * 3, none⟩ = some (.string (row4 i).nm) ∧ w.cell? ⟨g, i * 3 + 1, none⟩ = some (.string (row4 i).al) ∧ w.cell? ⟨g, i * 3 + 2, none⟩ = some (.string (row4 i).oid) :=
  Nat.mul_comm 3 i ▸ ⟨(blkCell h _).trans (namesAt hi).1, (blkCell h _).trans (namesAt hi).2.1, (blkCell h _).trans (namesAt hi).2.2⟩

theorem rowRet {t : ByteArray} {o : Option Nat} (h : find4 t = o) {w0 w1 : World} (hb : Below w0.heap.size w0 w1) : Ending.returned (.int .i64 (rowI o)) = .returned (.int .i64 (rowI (find4 t))) ∧ Below w0.heap.size w0 w1 := ⟨by rw [h], hb⟩

set_option maxHeartbeats 4000000 in
set_option maxRecDepth 100000 in
theorem row_any (s : ByteArray) (w : World) (hs : s.size ≤ 1099511627776) : Calls Tryz.prog 46 #[.string s] w fun e w' => e = .returned (.int .i64 (rowI (find4 (foldS s)))) ∧ Below w.heap.size w w' := by
  go_enter Tryz.func46, Tryz.ntmps46
  go_wp2_with (first
    | (go_at_call 75; refine (rfold_any _ _ hs).mono ?_; rintro e w1 ⟨rfl, hb⟩)
    | (go_at_call 95; refine (names_any _).mono ?_; rintro e w2 ⟨rfl, hb2⟩)
    | (refine wpList_store_row rfl _ _ _ rfl _ namesC rfl rfl 132 _ (heap_alloc_new _ _) (by kernel_rfl) (by kernel_rfl) (by kernel_rfl) ?_))
  go_loopw [5] (fun i wr => ∃ k : Nat, k ≤ 62 ∧ i = .int .i64 k ∧ Hid (∀ j < k, names4 j (foldS s) = false) ∧ Hid (TabAt wr w2.heap.size) ∧ Below w.heap.size w wr) (fun i _ => 62 - (intOf i).toNat)
  case atStart =>
    exact ⟨0, Nat.zero_le _, rfl, hid (fun j hj => by omega), hid (setRow_heap _ _ _ _ _ _ (heap_alloc_new _ _)), below_setRow ((belowNext hb hb2).alloc (belowNext hb hb2).size _) (belowNext hb hb2).size _⟩
  case round =>
    obtain ⟨k, hk, rfl, Hn, HT, hbr⟩ := hrel
    by_cases hlt : k < 62
    · obtain ⟨c0, c1, c2⟩ := HT.out.cells hlt
      have Hs := hid (find_step hlt Hn.out)
      clear Hn
      cases h1 : ((foldS s).toList == (row4 k).nm.toList) with
      | true =>
        have hf := hid (Hs.out.1 (by unfold names4; rw [← toL, ← toL, ← toL, ← toL, h1]; rfl))
        go_wp2
        go_ret
        exact rowRet hf.out hbr
      | false =>
        cases h4 : ((foldS s).toList == (row4 k).oid.toList) with
        | true =>
          have hf := hid (Hs.out.1 (by unfold names4; rw [← toL, ← toL, ← toL, ← toL, h4, Bool.or_true]))
          cases h2 : ((foldS s).toList == (row4 k).al.toList) with
          | true =>
            cases h3 : ((foldS s).toList == []) with
            | true => go_wp2; go_ret; exact rowRet hf.out hbr
            | false => go_wp2; go_ret; exact rowRet hf.out hbr
          | false => go_wp2; go_ret; exact rowRet hf.out hbr
        | false =>
          cases h2 : ((foldS s).toList == (row4 k).al.toList) with
          | true =>
            cases h3 : ((foldS s).toList == []) with
            | true =>
              have hn := hid (Hs.out.2 (by unfold names4; rw [← toL, ← toL, ← toL, ← toL, h1, h4, h2]; simpa using h3))
              go_wp2
              go_roundw
              case rel => exact ⟨k + 1, by omega, by go_num, hn, HT, hbr⟩
              case measure => simp [intOf]; omega
            | false =>
              have hf := hid (Hs.out.1 (by unfold names4; rw [← toL, ← toL, ← toL, ← toL, h1, h4, h2]; simpa using h3))
              go_wp2
              go_ret
              exact rowRet hf.out hbr
          | false =>
            have hn := hid (Hs.out.2 (by unfold names4; rw [← toL, ← toL, ← toL, ← toL, h1, h4, h2]; rfl))
            go_wp2
            go_roundw
            case rel => exact ⟨k + 1, by omega, by go_num, hn, HT, hbr⟩
            case measure => simp [intOf]; omega
    · have hf := hid (find_none (t := foldS s) (fun i hi => Hn.out i (by omega)))
      clear Hn
      go_wp2
      go_ret
      exact rowRet hf.out hbr
end Go.Proofs.YtfojfohfhomhbaaGreatDoor

namespace Go.Proofs.YtfojfohfhomhbaaGreatDoor
open Go.RowKit

theorem tabNew (w : World) (old : Array Value) : TabAt ((w.alloc (.cells old 132)).setRow w.heap.size namesC) w.heap.size := setRow_heap _ _ _ _ _ _ (heap_alloc_new _ _)
theorem retS2 {s t : ByteArray} (h : s = t) {w0 w1 : World} (hb : Below w0.heap.size w0 w1) : Ending.returned (.string s) = .returned (.string t) ∧ Below w0.heap.size w0 w1 := ⟨by rw [h], hb⟩
theorem canon_some {t : ByteArray} {i : Nat} (h : find4 (foldS t) = some i) : (row4 i).nm = canonS t := by rw [canonS, h]
theorem canon_none {t : ByteArray} (h : find4 (foldS t) = none) : foldS t = canonS t := by rw [canonS, h]

set_option maxHeartbeats 1600000 in
set_option maxRecDepth 100000 in
theorem canon_any (t : ByteArray) (w : World) (hs : t.size ≤ 1099511627776) : Calls Tryz.prog 93 #[.string t] w fun e w' => e = .returned (.string (canonS t)) ∧ Below w.heap.size w w' := by
  go_enter Tryz.func93, Tryz.ntmps93
  cases h : find4 (foldS t) with
  | none =>
    have hi : rowI (find4 (foldS t)) = -1 := by rw [h]; rfl
    have H := hid h
    clear h
    go_wp2_with (first
      | (go_at_call 46; refine (row_any _ _ hs).mono ?_; rintro e w1 ⟨rfl, hb⟩)
      | (go_at_call 75; refine (rfold_any _ _ hs).mono ?_; rintro e w2 ⟨rfl, hb2⟩))
    go_ret
    exact retS2 (canon_none H.out) (belowNext hb hb2)
  | some i =>
    have hi : rowI (find4 (foldS t)) = (i : Int) := by rw [h]; rfl
    have hlt := find4_lt h
    have hu := Tryz.underlying131
    have H := hid h
    clear h
    go_wp2_with (first
      | (go_at_call 46; refine (row_any _ _ hs).mono ?_; rintro e w1 ⟨rfl, hb⟩)
      | (go_at_call 95; refine (names_any _).mono ?_; rintro e w2 ⟨rfl, hb2⟩; have hsz := Nat.le_trans hb.size hb2.size; have c0 := fun old => ((tabNew w2 old).cells hlt).1)
      | (refine wpList_store_row rfl _ _ _ rfl _ namesC rfl rfl 132 _ (heap_alloc_new _ _) (by kernel_rfl) (by kernel_rfl) (by kernel_rfl) ?_))
    go_ret
    exact retS2 (canon_some H.out) (below_setRow ((belowNext hb hb2).alloc hsz _) hsz _)
end Go.Proofs.YtfojfohfhomhbaaGreatDoor

namespace Go.Proofs.YtfojfohfhomhbaaGreatDoor
open Go.RowKit

/-! ### the table's names, as lists -/
def namesOf (i : Nat) : List (List UInt8) := (byt (row4 i).nm :: (if (byt (row4 i).al).isEmpty = true then [] else [byt (row4 i).al])) ++ [byt (row4 i).oid]
theorem names4_of (i : Nat) (t : ByteArray) : names4 i t = (namesOf i).any fun l => byt t == l := by
  unfold names4 namesOf
  by_cases h : (byt (row4 i).al).isEmpty = true
  · have h2 : byt (row4 i).al = [] := by simpa using h
    rw [if_pos h, h2]
    cases hb : byt t <;> simp
  · by_cases h3 : byt t = byt (row4 i).al
    · have : (byt t).isEmpty = false := by rw [h3]; simpa using h
      simp [h, h3]
    · have h4 : (byt t == byt (row4 i).al) = false := by simpa using h3
      simp [h, h4]
def findIn (idx : List Nat) (s : ByteArray) : Option Nat := idx.find? fun i => names4 i s
def findL (s : ByteArray) : Option Nat := findIn ((List.range 62).drop 31) s
def idxI : Option Nat → Int
  | some i => (i : Int)
  | none => 0
theorem find4_parts (s : ByteArray) : find4 s = (findIn (List.range 31) s).or (findL s) := by
  show (List.range 62).find? _ = _
  have : List.range 62 = List.range 31 ++ (List.range 62).drop 31 := by decide
  rw [this, List.find?_append]; rfl

/-! ### the switch as the code has it -/
def swOf (fn : Func) : Code := match fn.body with
  | some (.seq _ (.seq (.seq _ (.block _ c)) _)) => c
  | _ => .ret
def rdIdx (n : Nat) (keep : List Nat) (c : Code) : Option Int := match rdTwo n keep c with
  | some (2, .int .i64 i, 3, .bool true) => some i
  | _ => none
theorem rdIdx_ok {n : Nat} {keep : List Nat} {c : Code} {i : Int} (h : rdIdx n keep c = some i) : rdTwo n keep c = some (2, .int .i64 i, 3, .bool true) := by
  unfold rdIdx at h
  split at h
  · rename_i h1; injection h with h; subst h; exact h1
  · simp at h
theorem getD_some {α : Type} {o : Option α} {d : α} (h : o.isSome = true) : o = some (o.getD d) := by cases o <;> simp at h ⊢
theorem find_of (n : Nat) (keep : List Nat) (s : ByteArray) : ∀ (cs : List (List Lit × Code)) (idx : List Nat), cs.map (fun p => (p.1, rdIdx n keep p.2)) = idx.map (fun i => ((namesOf i).map Lit.str, some (i : Int))) →
    (∀ p, cs.find? (fun p => p.1.any (·.fits (.string s))) = some p → ∃ i, findIn idx s = some i ∧ rdIdx n keep p.2 = some (i : Int)) ∧ (cs.find? (fun p => p.1.any (·.fits (.string s))) = none → findIn idx s = none)
  | [], [], _ => ⟨by simp, by simp [findIn]⟩
  | [], _ :: _, h => by simp at h
  | _ :: _, [], h => by simp at h
  | p :: cs, i :: idx, h => by
    simp only [List.map_cons, List.cons.injEq, Prod.mk.injEq] at h
    obtain ⟨⟨h1, h2⟩, h3⟩ := h
    have ih := find_of n keep s cs idx h3
    have hb : (p.1.any (·.fits (.string s))) = names4 i s := by
      rw [h1, names4_of, List.any_map]
      congr 1; funext l
      show (s.toList == l) = _
      rw [toL]
    unfold findIn at ih ⊢
    rw [List.find?_cons, List.find?_cons, hb]
    cases hn : names4 i s with
    | true => exact ⟨fun q hq => by injection hq with hq; subst hq; exact ⟨i, rfl, h2⟩, by simp⟩
    | false => exact ih

noncomputable def lnCs : List (List Lit × Code) × Code := (rdSw 105 4 true [4] 40 (swOf Tryz.f127)).getD ([], .ret)
theorem lnSome : rdSw 105 4 true [4] 40 (swOf Tryz.f127) = some lnCs := getD_some (by kernel_rfl)
theorem lnTab : lnCs.1.map (fun p => (p.1, rdIdx 105 [4] p.2)) = ((List.range 62).drop 31).map (fun i => ((namesOf i).map Lit.str, some (i : Int))) := by kernel_rfl
theorem lnDn : lnCs.2 = Code.skip := by kernel_rfl
noncomputable def bnCs : List (List Lit × Code) × Code := (rdSw 112 4 true [4, 0] 40 (swOf Tryz.f61)).getD ([], .ret)
theorem bnSome : rdSw 112 4 true [4, 0] 40 (swOf Tryz.f61) = some bnCs := getD_some (by kernel_rfl)
theorem bnDn : bnCs.2 = Code.skip := by kernel_rfl

theorem fr4 {n : Nat} {a : Act} {v : Value} (h1 : a.tmps.size = n) (h2 : a.defers = []) (h3 : a.tmps.getD 4 undef = v) : Sees n [(4, v)] a := ⟨h1, h2, fun p hp => by simp at hp; subst hp; exact h3⟩

theorem laterName_any (s : ByteArray) (w : World) : Calls Tryz.prog 127 #[.string s] w fun e w' => e = .returned (.tuple #[.int .i64 (idxI (findL s)), .bool (findL s).isSome]) ∧ w = w' := by
  go_enter Tryz.func127, Tryz.ntmps127
  go_upto_block 0 with (fail)
  rename_i Q' K hK
  refine wp_block ?_
  change Code.wp _ (swOf Tryz.f127) _ _ _
  refine rdSw_ok (n := 105) (x := 4) (fr := [(4, .string s)]) (v := .string s) (List.mem_singleton.2 rfl) rfl 40 _ lnCs.1 lnCs.2 lnSome (fr4 rfl rfl rfl) ?_ ?_
  · intro p hp a' ha'
    obtain ⟨i, hi, hx⟩ := (find_of 105 [4] s lnCs.1 _ lnTab).1 p hp
    refine rdTwo_ok (rdIdx_ok hx) ha' fun a2 ha2 => ?_
    refine ⟨ha2.2.1, _, results_tmp2 Tryz.results127 _ _ _, ?_⟩
    have h2 : a2.tmps.getD 2 undef = .int .i64 (i : Int) := ha2.2.2 (2, _) (by simp)
    have h3 : a2.tmps.getD 3 undef = .bool true := ha2.2.2 (3, _) (by simp)
    have hf : findL s = some i := hi
    rw [h2, h3, hf]
    exact ⟨rfl, rfl⟩
  · intro hno a' ha'
    have hf : findL s = none := (find_of 105 [4] s lnCs.1 _ lnTab).2 hno
    rw [lnDn]
    refine wp_skip (hK _ _ (rdTwo_ok (r := (2, .int .i64 0, 3, .bool false)) rfl ha' fun a2 ha2 => ?_))
    refine ⟨ha2.2.1, _, results_tmp2 Tryz.results127 _ _ _, ?_⟩
    have h2 : a2.tmps.getD 2 undef = .int .i64 0 := ha2.2.2 (2, _) (by simp)
    have h3 : a2.tmps.getD 3 undef = .bool false := ha2.2.2 (3, _) (by simp)
    rw [h2, h3, hf]
    exact ⟨rfl, rfl⟩

theorem fr40 {n : Nat} {a : Act} {v u : Value} (h1 : a.tmps.size = n) (h2 : a.defers = []) (h3 : a.tmps.getD 4 undef = v) (h4 : a.tmps.getD 0 undef = u) : Sees n [(4, v), (0, u)] a := ⟨h1, h2, fun p hp => by simp at hp; rcases hp with rfl | rfl <;> assumption⟩
theorem bnTab : bnCs.1.map (fun p => (p.1, rdIdx 112 [4, 0] p.2)) = (List.range 31).map (fun i => ((namesOf i).map Lit.str, some (i : Int))) := by kernel_rfl

theorem byName_any (s : ByteArray) (w : World) : Calls Tryz.prog 61 #[.string s] w fun e w' => e = .returned (.tuple #[.int .i64 (idxI (find4 s)), .bool (find4 s).isSome]) ∧ w = w' := by
  go_enter Tryz.func61, Tryz.ntmps61
  go_upto_block 0 with (fail)
  rename_i Q' K hK
  refine wp_block ?_
  change Code.wp _ (swOf Tryz.f61) _ _ _
  refine rdSw_ok (n := 112) (x := 4) (fr := [(4, .string s), (0, .string s)]) (v := .string s) (by simp) rfl 40 _ bnCs.1 bnCs.2 bnSome (fr40 rfl rfl rfl rfl) ?_ ?_
  · intro p hp a' ha'
    obtain ⟨i, hi, hx⟩ := (find_of 112 [4, 0] s bnCs.1 _ bnTab).1 p hp
    refine rdTwo_ok (rdIdx_ok hx) ha' fun a2 ha2 => ?_
    refine ⟨ha2.2.1, _, results_tmp2 Tryz.results61 _ _ _, ?_⟩
    have h2 : a2.tmps.getD 2 undef = .int .i64 (i : Int) := ha2.2.2 (2, _) (by simp)
    have h3 : a2.tmps.getD 3 undef = .bool true := ha2.2.2 (3, _) (by simp)
    have hf : find4 s = some i := by rw [find4_parts, hi]; rfl
    rw [h2, h3, hf]
    exact ⟨rfl, rfl⟩
  · intro hno a' ha'
    have hf : find4 s = findL s := by rw [find4_parts, (find_of 112 [4, 0] s bnCs.1 _ bnTab).2 hno]; rfl
    rw [bnDn]
    refine wp_skip (hK _ _ ?_)
    obtain ⟨tm, df⟩ := a'
    obtain ⟨hsz, rfl, hfr⟩ := ha'
    have h0 : tm.getD 0 undef = .string s := hfr (0, _) (by simp)
    clear hK K hno hfr
    go_wp2_with (go_at_call 127; refine (laterName_any _ _).mono ?_; rintro e w' ⟨rfl, rfl⟩)
    refine ⟨rfl, _, results_tmp2 Tryz.results61 _ _ _, ?_, rfl⟩
    simp [hsz, hf]
end Go.Proofs.YtfojfohfhomhbaaGreatDoor
