/- Walks: the program's reader of descriptions. Plain: the machine over numbers is the one over bytes. Walks: the program's scan of a description. -/
import Derived.Test.YtfojfohfhomhbaaGreatDoorMc
import Derived.Test.YtfojfohfhomhbaaGreatDoorMb
namespace Go.Proofs.YtfojfohfhomhbaaGreatDoor
open Go.RowKit

def wholeI (a p : Int) : Bool := if (a == 1) = true then true else if (a == 6) = true then true else if (a == 2) = true then decide (0 < p) else if (a == 3) = true then decide (0 < p) else false
def nxtI (a p n : Int) : Option (Int × Int) :=
  if (n == 59) = true then (if wholeI a p = true then some (5, p) else none)
  else if (a == 0) = true ∧ letN n = true then some (1, p)
  else if (a == 1) = true ∧ keyN n = true then some (1, p)
  else if ((a == 5) = true ∨ (a == 6) = true) ∧ keyN n = true then some (6, p)
  else if ((a == 0) = true ∨ (a == 4) = true) ∧ digN n = true then (if (n == 48) = true then some (2, p) else some (3, p))
  else if (a == 3) = true ∧ digN n = true then some (3, p)
  else if ((a == 2) = true ∨ (a == 3) = true) ∧ (n == 46) = true then some (4, p + 1)
  else none

theorem awhole_any (a p : Int) (w : World) : Calls Tryz.prog 170 #[.agg #[.int .i64 a, .int .i64 p]] w fun e w' => e = .returned (.bool (wholeI a p)) ∧ Below w.heap.size w w' := by
  go_enter Tryz.func170, Tryz.ntmps170
  go_wp2
  all_goals (go_ret; exact ⟨retB (by simp_all [wholeI]), (Below.refl _ _).alloc (Nat.le_refl _) _⟩)

def NextPost (g : Nat) (a p n : Int) (w : World) (e : Ending) (w' : World) : Prop := e = .returned (.bool (nxtI a p n).isSome) ∧
      w'.heap[g]? = some (.cells #[.int .i64 ((nxtI a p n).getD (a, p)).1, .int .i64 ((nxtI a p n).getD (a, p)).2] 197 (0, 0)) ∧ w.grownBy w' (some g)
section
variable {g : Nat} {a p n x : Int} {w w1 : World} (hb : Below w.heap.size w w1) (hg : w1.heap[g]? = some (.cells #[.int .i64 a, .int .i64 p] 197 (0, 0)))
include hb hg
theorem np0 (h : nxtI a p n = none) : NextPost g a p n w (.returned (.bool false)) w1 := ⟨by rw [h]; rfl, by rw [h]; exact hg, growBelow hb _⟩
theorem np1 (h : nxtI a p n = some (x, p)) : NextPost g a p n w (.returned (.bool true)) (w1.setCell ⟨g, 0, none⟩ (.int .i64 x)) :=
  ⟨by rw [h]; rfl, by rw [h]; exact blkSet hg 0 _, growSet (growBelow hb _) 0 _⟩
theorem np2 (h : nxtI a p n = some (x, p + 1)) : NextPost g a p n w (.returned (.bool true)) ((w1.setCell ⟨g, 0, none⟩ (.int .i64 x)).setCell ⟨g, 1, none⟩ (.int .i64 (p + 1))) :=
  ⟨by rw [h]; rfl, by rw [h]; exact blkSet (blkSet hg 0 _) 1 _, growSet (growSet (growBelow hb _) 0 _) 1 _⟩
theorem np3 {y : Int} (h : nxtI a p n = some (x, p)) : NextPost g a p n w (.returned (.bool true)) ((w1.setCell ⟨g, 0, none⟩ (.int .i64 y)).setCell ⟨g, 0, none⟩ (.int .i64 x)) :=
  ⟨by rw [h]; rfl, by rw [h]; exact blkSet (blkSet hg 0 _) 0 _, growSet (growSet (growBelow hb _) 0 _) 0 _⟩
theorem np4 (h : nxtI a p n = some (a, p)) : NextPost g a p n w (.returned (.bool true)) w1 := ⟨by rw [h]; rfl, by rw [h]; exact hg, growBelow hb _⟩
end

set_option maxHeartbeats 4000000 in
set_option maxRecDepth 100000 in
theorem anext_any (g : Nat) (a p n : Int) (hp0 : 0 ≤ p) (hp : p ≤ 2199023255552) (w : World) (hg : w.heap[g]? = some (.cells #[.int .i64 a, .int .i64 p] 197 (0, 0))) :
    Calls Tryz.prog 169 #[.pointer (some ⟨g, 0, none⟩), .int .u8 n] w (NextPost g a p n w) := by
  have c0 : w.cell? ⟨g, 0, none⟩ = some (.int .i64 a) := blkCell hg 0
  have c1 : w.cell? ⟨g, 1, none⟩ = some (.int .i64 p) := blkCell hg 1
  have f0 := blkFree hg 0
  have f1 := blkFree hg 1
  have hlt := blkLt hg
  have HG := hid hg
  clear hg
  go_enter Tryz.func169, Tryz.ntmps169
  go_wp2_with (first
    | (go_at_call 202; refine (aletter_any _ _).mono ?_; rintro e w' ⟨rfl, rfl⟩)
    | (go_at_call 204; refine (adigit_any _ _).mono ?_; rintro e w' ⟨rfl, rfl⟩)
    | (go_at_call 203; refine (akey_any _ _).mono ?_; rintro e w' ⟨rfl, rfl⟩)
    | (go_at_call 170; refine (awhole_any _ _ _).mono ?_; rintro e w1 ⟨rfl, hb⟩; have k0 := (hb.cell (p := ⟨g, 0, none⟩) hlt).trans c0; have k1 := (hb.frozen (p := ⟨g, 0, none⟩) hlt).trans f0; have K2 := hid ((hb.block g hlt).trans HG.out)))
  all_goals
    go_ret
    first
      | exact np0 ‹Below _ _ _› K2.out (by simp_all [nxtI])
      | exact np1 ‹Below _ _ _› K2.out (by simp_all [nxtI])
      | exact np0 (Below.refl _ _) HG.out (by simp_all [nxtI])
      | exact np1 (Below.refl _ _) HG.out (by simp_all [nxtI])
      | exact np2 (Below.refl _ _) HG.out (by simp_all [nxtI])
      | exact np3 (Below.refl _ _) HG.out (by simp_all [nxtI])
      | exact np4 (Below.refl _ _) HG.out (by simp_all [nxtI])
      | go_ways
end Go.Proofs.YtfojfohfhomhbaaGreatDoor

namespace Go.Proofs.YtfojfohfhomhbaaGreatDoor
/-! ### the machine over numbers is the one over bytes -/
theorem wholeI_of (a p : Nat) : wholeI a p = wholeS (a, p) := by
  simp only [wholeI, wholeS, beq_iff_eq]
  simp only [show ((a : Int) = 1) ↔ a = 1 by omega, show ((a : Int) = 2) ↔ a = 2 by omega, show ((a : Int) = 3) ↔ a = 3 by omega, show ((a : Int) = 6) ↔ a = 6 by omega, show ((0 : Int) < p) ↔ 0 < p by omega]
  grind
theorem nxtI_of (a p : Nat) (c : UInt8) : nxtI a p c.toNat = (nxt (a, p) c).map fun st => ((st.1 : Int), (st.2 : Int)) := by
  have e1 : ((c.toNat : Int) == 59) = (c == 59) := by
    have := allU8 (fun c => ((c.toNat : Int) == 59) == (c == 59)) (by decide +kernel) c
    simpa using this
  have e2 : ((c.toNat : Int) == 48) = (c == 48) := by
    have := allU8 (fun c => ((c.toNat : Int) == 48) == (c == 48)) (by decide +kernel) c
    simpa using this
  have e3 : ((c.toNat : Int) == 46) = (c == 46) := by
    have := allU8 (fun c => ((c.toNat : Int) == 46) == (c == 46)) (by decide +kernel) c
    simpa using this
  have ew := wholeI_of a p
  unfold nxtI nxt
  rw [e1, e2, e3, ew, letN_of, keyN_of, digN_of]
  simp only [beq_iff_eq]
  simp only [show ((a : Int) = 0) ↔ a = 0 by omega, show ((a : Int) = 1) ↔ a = 1 by omega, show ((a : Int) = 2) ↔ a = 2 by omega, show ((a : Int) = 3) ↔ a = 3 by omega, show ((a : Int) = 4) ↔ a = 4 by omega, show ((a : Int) = 5) ↔ a = 5 by omega, show ((a : Int) = 6) ↔ a = 6 by omega]
  grind
end Go.Proofs.YtfojfohfhomhbaaGreatDoor

namespace Go.Proofs.YtfojfohfhomhbaaGreatDoor
open Go.RowKit

theorem runS_none {l m : List UInt8} : ∀ {st : Nat × Nat}, runS st l = none → runS st (l ++ m) = none := by
  induction l with
  | nil => intro st h; simp [runS] at h
  | cons c l ih =>
    intro st h
    simp only [List.cons_append, runS] at h ⊢
    cases hn : nxt st c with
    | none => rfl
    | some st' => rw [hn] at h; exact ih h
theorem runS_take {s : ByteArray} {k : Nat} (h : k < s.size) {st : Nat × Nat} (hr : runS (0, 0) ((byt s).take k) = some st) : runS (0, 0) ((byt s).take (k + 1)) = nxt st s[k] := by
  rw [byt_snoc s k h, runS_snoc, hr]; rfl
theorem desc_none {s : ByteArray} {k : Nat} (h : runS (0, 0) ((byt s).take k) = none) : descB s = false := by
  unfold descB acc
  rw [← List.take_append_drop k (byt s), runS_none h]
theorem desc_done {s : ByteArray} {st : Nat × Nat} (h : runS (0, 0) (byt s) = some st) : descB s = wholeS st := by
  unfold descB acc; rw [h]
theorem nxt_le {st st' : Nat × Nat} {c : UInt8} (h : nxt st c = some st') : st'.2 ≤ st.2 + 1 := by
  unfold nxt at h
  split at h
  · split at h
    · injection h with h; subst h; simp
    · simp at h
  · split at h
    · injection h with h; subst h; simp
    · split at h
      · injection h with h; subst h; simp
      · split at h
        · injection h with h; subst h; simp
        · split at h
          · injection h with h; subst h; simp
          · split at h
            · injection h with h; subst h; simp
            · simp at h
theorem no59_snoc {s : ByteArray} {k : Nat} (h : k < s.size) (h0 : ((byt s).take k).contains 59 = false) (h1 : s[k] ≠ 59) : ((byt s).take (k + 1)).contains 59 = false := by
  rw [byt_snoc s k h]
  simp only [List.contains_eq_mem, List.mem_append, List.mem_singleton, decide_eq_false_iff_not, not_or] at h0 ⊢
  exact ⟨h0, fun e => h1 e.symm⟩
theorem is59 {s : ByteArray} {k : Nat} (h : k < s.size) (h1 : s[k] = 59) : typeB s = false := by
  have : (byt s).contains 59 = true := by
    simp only [List.contains_eq_mem, decide_eq_true_eq]
    have h2 : k < (byt s).length := by rw [byt_len]; exact h
    rw [← h1]; exact List.getElem_mem h2
  unfold typeB; rw [this]; rfl
theorem type_of {s : ByteArray} (h : (byt s).contains 59 = false) : typeB s = descB s := by unfold typeB; rw [h]; rfl

theorem num59 {c : UInt8} (h : c ≠ 59) : ((c.toNat : Int) == 59) = false := by
  have := allU8 (fun c => ((c.toNat : Int) == 59) == (c == 59)) (by decide +kernel) c
  simp only [beq_iff_eq] at this
  rw [this]; simpa using h
/-- What the reader's two cells hold. -/
def RdAt (w : World) (g : Nat) (st : Nat × Nat) : Prop := w.heap[g]? = some (.cells #[.int .i64 (st.1 : Int), .int .i64 (st.2 : Int)] 197 (0, 0))
def scanB (bare : Bool) (s : ByteArray) : Bool := if bare = true then typeB s else descB s
def ScanPost (bare : Bool) (s : ByteArray) (w : World) (e : Ending) (w' : World) : Prop := ∃ q : Int, e = .returned (.tuple #[.bool (scanB bare s), .int .i64 q]) ∧ Below w.heap.size w w'
theorem retScan {bare : Bool} {s : ByteArray} {b : Bool} {p : Int} {w0 w1 : World} (h : b = scanB bare s) (hb : Below w0.heap.size w0 w1) : ScanPost bare s w0 (.returned (.tuple #[.bool b, .int .i64 p])) w1 := ⟨p, by rw [h], hb⟩

set_option maxHeartbeats 4000000 in
set_option maxRecDepth 100000 in
theorem scan_any (bare : Bool) (s : ByteArray) (w : World) (hs : s.size ≤ 1099511627776) : Calls Tryz.prog 123 #[.string s, .bool bare] w (ScanPost bare s w) := by
  go_enter Tryz.func123, Tryz.ntmps123
  go_wp2
  go_loopw [7, 11] (fun _ i wr => ∃ (k : Nat) (st : Nat × Nat), k ≤ s.size ∧ i = .int .i64 k ∧ st.2 ≤ k ∧ Hid (runS (0, 0) ((byt s).take k) = some st) ∧ Hid (bare = true → ((byt s).take k).contains 59 = false) ∧
      Hid (RdAt wr w.heap.size st) ∧ Below w.heap.size w wr) (fun _ i _ => s.size - (intOf i).toNat)
  case atStart => exact ⟨0, (0, 0), Nat.zero_le _, rfl, Nat.le_refl _, hid (by simp [runS]), hid (by simp), hid (heap_alloc_new _ _), (Below.refl _ _).alloc (Nat.le_refl _) _⟩
  case round =>
    obtain ⟨k, st, hk, rfl, hst, Hr, Hn, HR, hb⟩ := hrel
    by_cases hlt : k < s.size
    · have hI := nxtI_of st.1 st.2 s[k]
      have HT := hid (runS_take hlt Hr.out)
      have grow : ∀ w1 : World, wr.grownBy w1 (some w.heap.size) → Below w.heap.size w w1 := fun _ hgr => belowGrow hb hgr (fun _ e => by cases e; exact Nat.le_refl _)
      cases hnx : nxt st s[k] with
      | none =>
        rw [show (st.1, st.2) = st from rfl, hnx] at hI
        have hdn := hid (desc_none (s := s) (k := k + 1) (by rw [HT.out, hnx]))
        have HI := hid hI
        clear hI hnx HT
        cases bare with
        | false =>
          have HG := hid grow
          clear grow
          go_wp2_with (go_at_call 169; refine (anext_any w.heap.size st.1 st.2 (s[k].toNat) (by omega) (by omega) _ HR.out).mono ?_; rintro e w1 ⟨rfl, hg1, hgr⟩; rw [HI.out] at hg1 ⊢; simp only [Option.map, Option.isSome, Option.getD] at hg1 ⊢)
          go_ret2
          exact retScan hdn.out.symm (HG.out _ hgr)
        | true =>
          have hdt := hid (show typeB s = false by unfold typeB; rw [hdn.out, Bool.and_false])
          have HG := hid grow
          clear grow
          by_cases h59 : s[k] = 59
          · have e1 : ((s[k].toNat : Int) == 59) = true := by rw [h59]; rfl
            clear h59
            go_wp2
            go_ret2
            exact retScan hdt.out.symm hb
          · have e1 : ((s[k].toNat : Int) == 59) = false := num59 h59
            clear h59
            go_wp2_with (go_at_call 169; refine (anext_any w.heap.size st.1 st.2 (s[k].toNat) (by omega) (by omega) _ HR.out).mono ?_; rintro e w1 ⟨rfl, hg1, hgr⟩; rw [HI.out] at hg1 ⊢; simp only [Option.map, Option.isSome, Option.getD] at hg1 ⊢)
            go_ret2
            exact retScan hdt.out.symm (HG.out _ hgr)
      | some st' =>
        rw [show (st.1, st.2) = st from rfl, hnx] at hI
        have hle := nxt_le hnx
        have HT2 := hid (HT.out.trans hnx)
        have HI := hid hI
        clear hI hnx HT
        have HG := hid grow
        clear grow
        cases bare with
        | false =>
          go_wp2_with (go_at_call 169; refine (anext_any w.heap.size st.1 st.2 (s[k].toNat) (by omega) (by omega) _ HR.out).mono ?_; rintro e w1 ⟨rfl, hg1, hgr⟩; rw [HI.out] at hg1 ⊢; simp only [Option.map, Option.isSome, Option.getD] at hg1 ⊢)
          go_roundw
          case rel => exact ⟨k + 1, st', by omega, by go_num, by omega, HT2, hid (fun h => by cases h), hid hg1, HG.out _ hgr⟩
          case measure => simp [intOf]; omega
        | true =>
          by_cases h59 : s[k] = 59
          · have e1 : ((s[k].toNat : Int) == 59) = true := by rw [h59]; rfl
            have hdt := hid (is59 hlt h59)
            clear h59
            go_wp2
            go_ret2
            exact retScan hdt.out.symm hb
          · have e1 : ((s[k].toNat : Int) == 59) = false := num59 h59
            have HN := hid (no59_snoc hlt (Hn.out rfl) h59)
            clear h59
            go_wp2_with (go_at_call 169; refine (anext_any w.heap.size st.1 st.2 (s[k].toNat) (by omega) (by omega) _ HR.out).mono ?_; rintro e w1 ⟨rfl, hg1, hgr⟩; rw [HI.out] at hg1 ⊢; simp only [Option.map, Option.isSome, Option.getD] at hg1 ⊢)
            go_roundw
            case rel => exact ⟨k + 1, st', by omega, by go_num, by omega, HT2, hid (fun _ => HN.out), hid hg1, HG.out _ hgr⟩
            case measure => simp [intOf]; omega
    · have hk2 : k = s.size := by omega
      have hr := Hr.out
      rw [hk2, byt_all] at hr
      have hw : scanB bare s = wholeS st := by
        cases bare with
        | false => exact desc_done hr
        | true =>
          have := Hn.out rfl
          rw [hk2, byt_all] at this
          exact (type_of this).trans (desc_done hr)
      have HW := hid hw
      clear hw hr hk2
      have c0 : wr.cell? ⟨w.heap.size, 0, none⟩ = some (.int .i64 st.1) := blkCell HR.out 0
      have c1 : wr.cell? ⟨w.heap.size, 1, none⟩ = some (.int .i64 st.2) := blkCell HR.out 1
      go_wp2_with (go_at_call 170; refine (awhole_any _ _ _).mono ?_; rintro e w1 ⟨rfl, hb1⟩)
      go_ret2
      exact retScan ((wholeI_of st.1 st.2).trans HW.out.symm) (belowNext hb hb1)
end Go.Proofs.YtfojfohfhomhbaaGreatDoor
