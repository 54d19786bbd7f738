/- Walks: the program's reading of a description, whole. -/
import Derived.Test.YtfojfohfhomhbaaGreatDoorMe
import Derived.Test.YtfojfohfhomhbaaGreatDoorMf
import Derived.Test.YtfojfohfhomhbaaGreatDoorMb
import Derived.Test.YtfojfohfhomhbaaGreatDoorMg
import Derived.Handy
import Derived.Deep.DeepMust
namespace Go.Proofs.YtfojfohfhomhbaaGreatDoor
open Go.RowKit Go.Maps Go.Sort Go.ChangeMaps Go.MapKept Go.WideShapes

theorem wf64 {a : Int} (h0 : 0 ≤ a) (h1 : a ≤ 1099511627776) : (Lit.int .i64 a).wf = true := by
  simp only [Lit.wf, Bool.and_eq_true, decide_eq_true_eq]
  exact ⟨Int.le_trans (by decide) h0, Int.le_trans h1 (by decide)⟩
theorem opts_next {s : ByteArray} {k : Nat} (h : k < ((pieces 59 s).drop 1).length) : (optsS s).take (k + 1) = (optsS s).take k ++ [foldS ((pieces 59 s).drop 1)[k]] := by
  have hl : k < (optsS s).length := by rw [opts_pieces]; simpa using h
  rw [List.take_succ_eq_append_getElem hl]
  simp [opts_pieces]
theorem ownsHeap {w w' : World} {base e sz n : Nat} {v : Value} {xs : List Value} (h : w.ownsRow base e sz v n xs) (hh : ∀ g, v.ownBlock = some g → w'.heap[g]? = w.heap[g]?) : w'.ownsRow base e sz v n xs := by
  refine ⟨h.1, ?_⟩
  rcases h.2 with h0 | ⟨g, cap, cur, hv, hg, hb, hr⟩
  · exact .inl h0
  · exact .inr ⟨g, cap, cur, hv, hg, (hh g (by rw [hv]; rfl)).trans hb, hr⟩
theorem optsMem {D : DataW Unit} {left : Go.Lit → Bool} {ss : List (List UInt8)} {L : List ByteArray} {n : Nat} (hC : Collected D left ss) (hl : ∀ kl, left kl = false) (hK : KeysIn D L n) (t : ByteArray) : t ∈ (ss.mergeSort leB).map bs ↔ t ∈ L := by
  have h1 : byt t ∈ ss ↔ t ∈ L := by
    rw [hC.2 (byt t), hl]
    have := hK.2.1 (byt t)
    rw [bs_byt] at this
    simp [this]
  rw [← h1, List.mem_map]
  constructor
  · rintro ⟨x, hx, rfl⟩
    rw [byt_bs]
    exact (List.mergeSort_perm ss leB).mem_iff.1 hx
  · intro h
    exact ⟨byt t, (List.mergeSort_perm ss leB).mem_iff.2 h, bs_byt t⟩
theorem parDone {s : ByteArray} {w w' : World} {A : Option Addr} {n c : Nat} {p : Int} {ss : List (List UInt8)} {base : Nat} {D : DataW Unit} {left : Go.Lit → Bool} {k : Nat} (hown : w'.ownsRow base 9 1 (.slice A n c) n ((ss.mergeSort leB).map encStr)) (hn : n ≤ s.size)
    (hC : Collected D left ss) (hl : ∀ kl, left kl = false) (hK : KeysIn D (optsS s) k) (hb : RowKit.Below w.heap.size w w') : ParYes s w (.returned (.tuple #[.agg #[.string (canonS (headS s)), .slice A n c], .int .i64 0, .int .i64 p])) w' :=
  ⟨A, n, c, (ss.mergeSort leB).map bs, p, rfl, hn, by have := Rd.ofOwn hown; rwa [show sv ((ss.mergeSort leB).map bs) = (ss.mergeSort leB).map encStr by simp [sv, Function.comp_def, bs]], fun t => optsMem hC hl hK t, hb⟩
theorem law_str : Keyed Tryz.prog 9 := string_keyed Tryz.underlying9
set_option maxHeartbeats 4000000 in
set_option maxRecDepth 100000 in
theorem parse_yes (s : ByteArray) (w : World) (hs : s.size ≤ 1099511) (hd : descB s = true) (hm : MaxAt w) : Calls Tryz.prog 60 #[.string s] w (ParYes s w) := by
  have hsc : scanB false s = true := hd
  have HM := hid hm
  clear hd hm
  have hmk := fun w => run_makeMap (P := Tryz.prog) 156 w
  go_enter Tryz.func60, Tryz.ntmps60
  go_wp2_with (first
    | (go_at_call 123; refine (scan_any false _ _ (by omega)).mono ?_; rintro e w1 ⟨q, rfl, hb1⟩
       have HB1 := hid ((below1 w _).trans (hb1.mono (by simp)))
       have HG1 := hid (DescAt.up (show DescAt (w.alloc _) w.heap.size _ _ from heap_alloc_new _ _) hb1)
       clear hb1)
    | (go_at_call 124; refine (split_any _ _ hs (HM.out.below (Nat.le_refl _) HB1.out)).mono ?_; rintro e w2 ⟨n, rfl, hn, hz2, hr2, hb2⟩
       have HR := hid hr2
       have HB2 := hid (belowNext HB1.out hb2)
       have HG2 := hid (HG1.out.up hb2)
       have HN := hid hn
       obtain ⟨ad, had, hadb, hrd⟩ := restAt hr2 (by rw [hn, pieces_length]; omega)
       have HP := hid hrd
       clear hrd
       have hn1 : 1 ≤ n := by rw [hn, pieces_length]; omega
       have hn2 : (1 : Int) ≤ n := by omega
       clear hr2 hb2 hz2 hn))
  have hnl : n - 1 ≤ s.size := by have h1 := HN.out; have h2 := (spl_le 59 (byt s)).1; rw [byt_len] at h2; rw [pieces_length] at h1; omega
  have hpl : ((pieces 59 s).drop 1).length = n - 1 := by have h1 := HN.out; simp; omega
  have hzi : (zeroValue 3).run Tryz.prog = fun w => .ok (.int .i64 0) w := by funext w; kernel_rfl
  have HZ := hid hzi
  clear hzi had hmk hsc
  go_loopw [10, 28] (fun _ i wr => ∃ (k : Nat) (D : DataW Unit), k ≤ n - 1 ∧ i = .int .i64 k ∧ Hid (wr.ownsMap Tryz.prog 9 (plainElem Tryz.prog 3) w2.heap.size k D) ∧ Hid (KeysIn D ((optsS s).take k) k) ∧ Hid (RowKit.Below w2.heap.size w2 wr)) (fun _ i _ => (n - 1) - (intOf i).toNat)
  case atStart => exact ⟨0, .map [], Nat.zero_le _, rfl, hid (World.ownsMap_made w2 _ _ _), hid (by simpa using KeysIn.zero), hid (below1 w2 _)⟩
  case round =>
    obtain ⟨k, D, hk, rfl, HM2, HK, HB⟩ := hrel
    by_cases hlt : k < n - 1
    · obtain ⟨ad2, he, hka, hca⟩ := svCell (HP.out.below HB.out) hlt
      injection he with he
      subst he
      obtain ⟨t, ht⟩ : ∃ t, t = ((pieces 59 s).drop 1)[k] := ⟨_, rfl⟩
      have hts : t.size ≤ s.size := by rw [ht]; exact pieces_size (List.mem_of_mem_drop (List.getElem_mem hka))
      rw [← ht] at hca
      have HT := hid (show (optsS s).take (k + 1) = (optsS s).take k ++ [foldS t] by rw [ht]; exact opts_next hka)
      have hft : (foldS t).size ≤ maxLen := by rw [foldS_size]; unfold maxLen; omega
      have HKEY := hid (Go.WideMaps.keyOf_string_mk (P := Tryz.prog) Tryz.underlying9 hft)
      clear ht hka hft
      go_wp2_with (first
        | (go_at_call 115; refine (fold_any _ _ (by omega)).mono ?_; rintro e w3 ⟨rfl, hb3⟩
           have HM3 := hid (HM2.out.kept (growBelow hb3 none) (by simp))
           have HB3 := hid (belowNext HB.out hb3)
           clear hb3)
        | (at_lookup; refine wpList_lookup_own_int _ rfl _ _ 156 rfl 9 3 .i64 law_str Tryz.underlying156 Tryz.underlying3 (congrFun HZ.out _) w2.heap.size k D rfl HM3.out _ (.string (byt (foldS t))) rfl HKEY.out ?_
           intro c hat hwc
           have hc := HK.out.2.2 _ c hat
           have hc1 := hc.1
           have hc2 := hc.2
           have hval := plainElem_int (H := Unit) (P := Tryz.prog) (e := 3) Tryz.underlying3 (wf64 (a := c + 1) (by omega) (by omega))
           have HV := hid hval
           clear hat hwc hc hval)
        | (at_mapUpdate; refine wpList_mapUpdate_own _ rfl _ _ _ 156 rfl 9 3 law_str Tryz.underlying156 _ w2.heap.size k D rfl HM3.out (by unfold maxLen; omega) _ _ (.string (byt (foldS t))) rfl rfl HKEY.out (.lit (.int .i64 (c + 1))) [] HV.out ?_
           intro w4 hm4 hg4
           have HM4 := hid hm4
           have HB4 := hid (RowKit.Below.grown HB3.out hg4 HB3.out.size (fun k e => by cases e; exact Nat.le_refl _))
           clear hm4 hg4))
      go_roundw
      case rel => exact ⟨k + 1, _, by omega, by go_num, HM4, hid (by rw [HT.out]; exact HK.out.put _ _ ⟨by omega, by omega⟩), HB4⟩
      case measure => simp [intOf]; omega
    · have hk2 : k = n - 1 := by omega
      subst hk2
      have HO := hid (show (optsS s).take (n - 1) = optsS s from List.take_of_length_le (by rw [opts_pieces, List.length_map, hpl]; exact Nat.le_refl _))
      have hcx : wr.cell? ⟨w1.heap.size, 0, none⟩ = some (.string (headS s)) := by
        obtain ⟨ad3, he, hl3, hc3⟩ := svCell (HR.out.below HB.out) (show 0 < n by omega)
        injection he with he
        subst he
        simpa [Addr.add, head_piece] using hc3
      have hhl : (headS s).size ≤ 1099511627776 := by have := head_le s; omega
      clear hpl hk
      rw [HO.out] at HK
      go_wp2_with (first
        | (go_at_call 125; refine (canonical_any _ _ hhl).mono ?_; rintro e w3 ⟨rfl, hb3⟩
           have HM3 := hid (HM2.out.kept (growBelow hb3 none) (by simp))
           have HB3 := hid (belowNext HB.out hb3)
           have hlt3 := HM3.out.lt
           clear hb3)
        | (at_range; refine wpList_range_own _ rfl _ 156 rfl 9 3 law_str Tryz.underlying156 _ w2.heap.size (n - 1) D rfl (HM3.out.alloc _) ?_
           intro w5 hrg5 hg5 hs5
           have HD5 := hid (show DescAt w5 w3.heap.size _ _ from (hg5.block _ (by simp) (by simp)).trans (heap_alloc_new _ _))
           have HB5 := hid (RowKit.Below.grown (HB3.out.alloc HB3.out.size (.cells #[.string (canonS (headS s)), .slice none 0 0] 75)) hg5 (Nat.le_trans HB3.out.size (by simp)) (fun k e => by cases e))
           have hsr : w3.heap.size < (w3.alloc (.cells #[.string (canonS (headS s)), .slice none 0 0] 75)).heap.size := by simp
           have hsz := HM3.out.size_le
           generalize hr : (w3.alloc (.cells #[.string (canonS (headS s)), .slice none 0 0] 75)).heap.size = r at hrg5 hsr hs5 ⊢
           clear hr hg5 hs5))
      go_frame
      have hm2 := HB3.out.size
      have hwr := HB2.out.size
      have HRL := hid (Array.getElem?_eq_some_iff.1 HG2.out).1
      clear hcx hhl HM2 HM3 HB HO
      have HRG := hid hrg5
      clear hrg5
      go_loopw [12] (fun _ wr => ∃ (left : Go.Lit → Bool) (cnt : Nat) (ss : List (List UInt8)) (v : Value), Hid (wr.ranges Tryz.prog 9 (plainElem Tryz.prog 3) w2.heap.size r (n - 1) D left cnt) ∧ Hid (DescAt wr w3.heap.size (.string (canonS (headS s))) v) ∧
          Hid (wr.ownsRow (r + 1) 9 1 v ss.length (ss.map encStr)) ∧ Hid (Collected D left ss) ∧ ss.length + cnt ≤ Maps.size D ∧ Hid (RowKit.Below w2.heap.size w2 wr)) (fun _ wr => wr.rangeLeft w2.heap.size r)
      case atStart => exact ⟨_, _, [], _, HRG, HD5, hid (World.ownsRow_nil _ _ _ _), hid (Collected.start D), by simp, HB5⟩
      case round =>
        clear HRG HD5 HB5
        obtain ⟨left, cnt, ss, v, HRG, HD, HOW, HC, hcs, HB⟩ := hrel
        have hrlt := HRG.out.lt
        obtain ⟨c0, c1, f0, f1⟩ := HD.out.facts
        go_wp2_with (at_next; refine wpList_next_ranges _ rfl _ rfl 9 law_str (plainElem Tryz.prog 3) encStr (Value.int .i64) (fun key kl hk => by obtain ⟨x, hx, _⟩ := Maps.keyOf_str Tryz.underlying9 hk; exact ⟨x, hx⟩) (fun v y hv => by obtain ⟨c, rfl, _⟩ := plainElem_int_inv Tryz.underlying3 hv; exact ⟨c, rfl⟩) w2.heap.size r (n - 1) _ _ _ rfl HRG.out ?_ ?_)
        · intro hc0 hl0
          have HL := hid hl0
          clear hl0
          have hsm := HRG.out.owns.size_le
          have hrow := HOW.out
          rcases hrow.2 with ⟨rfl, h0⟩ | ⟨g, cap, cur, rfl, hbase, hb, h1, h2, h3, h4⟩
          · have hss : ss = [] := List.eq_nil_of_length_eq_zero h0
            subst hss
            clear hrow h0
            go_wp2_with (first
              | (refine wpList_clear_own _ rfl _ 156 rfl 9 3 Tryz.underlying156 w2.heap.size (plainElem Tryz.prog 3) (n - 1) D rfl HRG.out.owns ?_
                 intro w6 hg6
                 have HD6 := hid (show DescAt w6 w3.heap.size _ _ from (hg6.block _ (Array.getElem?_eq_some_iff.1 HD.out).1 (by simp; omega)).trans HD.out)
                 have HB6 := hid (RowKit.Below.grown HB.out hg6 HB.out.size (fun k e => by cases e; exact Nat.le_refl _))
                 have HR6 := hid (show DescAt w6 w.heap.size _ _ from (HB6.out.block _ HRL.out).trans HG2.out)
                 obtain ⟨d0, d1, e0, e1⟩ := HD6.out.facts
                 obtain ⟨q0, q1, o0, o1⟩ := HR6.out.facts
                 clear hg6 c0 c1 f0 f1)
              | (go_at_call 126; refine (sortNone_any none 0 _).mono ?_; rintro e w7 ⟨rfl, rfl⟩))
            exact descEnd rfl rfl HR6.out (parDone (ss := []) (base := 0) (by rw [show (([] : List (List UInt8)).mergeSort leB) = [] by simp]; exact World.ownsRow_nil _ _ _ _) (Nat.zero_le _) HC.out HL.out HK.out (((HB2.out.trans (HB6.out.mono hwr)).setCell (Nat.le_refl _) _).setCell (Nat.le_refl _) _))
          · have hgl : g < wr.heap.size := (Array.getElem?_eq_some_iff.1 hb).1
            have HH := hid hrow
            have HBK := hid hb
            have H1 := hid h1
            have H2 := hid h2
            have H3 := hid h3
            have H4 := hid h4
            clear hrow hb h1 h2 h3 h4
            go_wp2_with (first
              | (refine wpList_clear_own _ rfl _ 156 rfl 9 3 Tryz.underlying156 w2.heap.size (plainElem Tryz.prog 3) (n - 1) D rfl HRG.out.owns ?_
                 intro w6 hg6
                 have HD6 := hid (show DescAt w6 w3.heap.size _ _ from (hg6.block _ (Array.getElem?_eq_some_iff.1 HD.out).1 (by simp; omega)).trans HD.out)
                 have HB6 := hid (RowKit.Below.grown HB.out hg6 HB.out.size (fun k e => by cases e; exact Nat.le_refl _))
                 have HK6 := hid ((hg6.block g hgl (by simp; omega)).trans HBK.out)
                 obtain ⟨d0, d1, e0, e1⟩ := HD6.out.facts
                 clear hg6 c0 c1 f0 f1)
              | (go_at_call 126; refine (sortStrings_any g 0 cap ss w6 (holds_of_block HK6.out (by simpa using H4.out)) (Array.getElem?_eq_some_iff.1 HK6.out).1 (by omega)).mono ?_; rintro e w7 ⟨rfl, nn, os, hw7⟩
                 have HOW7 := hid (show w7.ownsRow (r + 1) 9 1 (.slice (some ⟨g, 0, none⟩) ss.length cap) ss.length ((ss.mergeSort leB).map encStr) by rw [hw7]; exact ownsRow_sorted (by simp) hbase HK6.out H1.out H2.out H3.out)
                 have hg7 : w6.grownBy w7 (some g) := by rw [hw7]; exact grownBy_sorted _
                 have HD7 := hid (show DescAt w7 w3.heap.size _ _ from (hg7.block _ (Array.getElem?_eq_some_iff.1 HD6.out).1 (by simp; omega)).trans HD6.out)
                 have HB7 := hid (RowKit.Below.grown HB6.out hg7 HB6.out.size (fun k e => by cases e; omega))
                 have HR7 := hid (show DescAt w7 w.heap.size _ _ from (HB7.out.block _ HRL.out).trans HG2.out)
                 obtain ⟨p0, p1, n0, n1⟩ := HD7.out.facts
                 obtain ⟨q0, q1, o0, o1⟩ := HR7.out.facts
                 clear hw7 hg7 d0 d1 e0 e1))
            have hrl := HRL.out
            exact descEnd rfl rfl HR7.out (parDone (ownsHeap HOW7.out (fun g' hg' => (heap_setCell_other _ _ _ _ (by have := ownLe HOW7.out g' hg'; simp; omega)).trans (heap_setCell_other _ _ _ _ (by have := ownLe HOW7.out g' hg'; simp; omega)))) (by omega) HC.out HL.out HK.out (((HB2.out.trans (HB7.out.mono hwr)).setCell (Nat.le_refl _) _).setCell (Nat.le_refl _) _))
        · intro x c kl y yp w6 cnt2 hkey hlk hv hat hrg2 hlt2 hg2 hs2 hen
          obtain ⟨x', ex, rfl, _⟩ := Maps.keyOf_str Tryz.underlying9 hkey
          obtain rfl : x = x' := encStr_inj ex
          have HRG2 := hid hrg2
          have HOW2 := hid (HOW.out.kept hg2 (Or.inr (row_ne_iter HOW.out HRG.out).symm))
          have HD2 := hid (show DescAt w6 w3.heap.size _ _ from (hg2.block _ (by omega) (by simp; omega)).trans HD.out)
          have HB6 := hid (RowKit.Below.grown HB.out hg2 HB.out.size (fun k e => by cases e; omega))
          have HC2 := hid (HC.out.step hlk hat)
          have hr6 := hrg2.lt
          obtain ⟨d0, d1, e0, e1⟩ := HD2.out.facts
          clear hs2 hg2 hkey hlk hv hat hrg2 c0 c1 f0 f1 ex HC
          go_wp2_with (at_builtin; go_must (refine app2 rfl _ _ 23 rfl (r + 1) 9 _ 16 Tryz.underlying23 info_str rfl _ _ _ rfl HOW2.out rfl (by simp [Value.oneCell']) (by omega) (by omega) (by omega) ?_)
                       intro v' w7 hown7 hb7
                       obtain ⟨A', c', rfl, _⟩ := ownForm hown7
                       have HOW7 := hid hown7
                       have HD7 := hid (show DescAt w7 w3.heap.size _ _ from (hb7.block _ (by omega)).trans HD2.out)
                       have HRG7 := hid (rangesOf HRG2.out (hb7.block _ (by omega)) (hb7.block _ (by omega)))
                       have HB7 := hid (HB6.out.trans (hb7.mono (by omega)))
                       obtain ⟨g0, g1, h0, h1⟩ := HD7.out.facts
                       clear hown7 hb7 d0 d1 e0 e1)
          have HRG8 := hid (rangesOf (w' := w7.setCell ⟨w3.heap.size, 1, none⟩ (.slice A' (ss.length + 1) c')) HRG7.out (heap_setCell_other _ _ _ _ (by simp; omega)) (heap_setCell_other _ _ _ _ (by simp; omega)))
          have HOW8 := hid (ownsHeap (w' := w7.setCell ⟨w3.heap.size, 1, none⟩ (.slice A' (ss.length + 1) c')) HOW7.out (fun g hg => heap_setCell_other _ _ _ _ (by have := ownLe HOW7.out g hg; simp; omega)))
          go_roundw
          case rel => exact ⟨_, cnt2, ss ++ [x], _, HRG8, hid (blkSet HD7.out 1 _), hid (by simpa using HOW8.out), HC2, by simp; omega, hid (HB7.out.setCell hm2 _)⟩
          case measure => rw [HRG8.out.left_eq, HRG.out.left_eq]; exact hlt2

set_option maxHeartbeats 1600000 in
set_option maxRecDepth 100000 in
theorem parse_no (s : ByteArray) (w : World) (hs : s.size ≤ 1099511) (hd : descB s = false) : Calls Tryz.prog 60 #[.string s] w (ParNo w) := by
  have hsc : scanB false s = false := hd
  clear hd
  go_enter Tryz.func60, Tryz.ntmps60
  go_wp2_with (go_at_call 123; refine (scan_any false _ _ (by omega)).mono ?_; rintro e w1 ⟨q, rfl, hb1⟩
               have HB1 := hid ((below1 w _).trans (hb1.mono (by simp)))
               have HG1 := hid (DescAt.up (show DescAt (w.alloc _) w.heap.size _ _ from heap_alloc_new _ _) hb1)
               obtain ⟨c0, c1, f0, f1⟩ := HG1.out.facts
               clear hb1)
  exact descEnd rfl rfl HG1.out ⟨q, rfl, (HB1.out.setCell (Nat.le_refl _) _).setCell (Nat.le_refl _) _⟩
end Go.Proofs.YtfojfohfhomhbaaGreatDoor
