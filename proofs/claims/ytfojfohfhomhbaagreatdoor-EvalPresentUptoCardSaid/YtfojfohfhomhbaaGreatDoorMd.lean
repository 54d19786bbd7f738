/- Walks: the program's rows of attribute types. Walks: the program's canonical types, super types. Walks: the law's copies of lists, and whether two lists are the same. -/
import Derived.Test.YtfojfohfhomhbaaGreatDoorMc
import Derived.Test.YtfojfohfhomhbaaGreatDoorMb
import Derived.Deep.QuietTactic
import Derived.BigQuiet
import Derived.Deep.DeepMust
namespace Go.Proofs.YtfojfohfhomhbaaGreatDoor
open Go.RowKit

variable {P : Program} {Q : Exit → Act → World → Prop} {w : World}
theorem wp_case {n x d : Nat} {s : Bool} {fr : List (Nat × Value)} {t hit rest : Code} {l : Lit} {v : Value} (hr : rdTst n x d s (fr.map (·.1)) t = some l) (hv : (x, v) ∈ fr) (hs : isStr v = some s) {a : Act} (ha : Sees n fr a)
    (yes : l.fits v = true → ∀ a', Sees n fr a' → hit.wp P Q a' w) (no : l.fits v = false → ∀ a', Sees n fr a' → rest.wp P Q a' w) : (Code.seq t (.cond (.tmp d) hit rest)).wp P Q a w := by
  refine wp_seq (rdTst_ok hr hv hs ha fun a' ha' hd' => ?_)
  show (Code.cond _ _ _).wp P Q a' w
  cases hl : l.fits v with
  | true => rw [hl] at hd'; exact wp_cond_true hd' (yes hl a' ha')
  | false => rw [hl] at hd'; exact wp_cond_false hd' (no hl a' ha')
theorem fr3 {n : Nat} {a : Act} {u v x : Value} (h1 : a.tmps.size = n) (h2 : a.defers = []) (h3 : a.tmps.getD 3 undef = v) (h4 : a.tmps.getD 2 undef = u) (h0 : a.tmps.getD 0 undef = x) : Sees n [(3, v), (2, u), (0, x)] a := ⟨h1, h2, fun p hp => by simp at hp; rcases hp with rfl | rfl | rfl <;> assumption⟩

/-- What a row's number is answered with. -/
def RowPost (i : Nat) (w : World) (e : Ending) (w' : World) : Prop := ∃ (A : Option Addr) (k c : Nat), e = .returned (.agg #[.string (row4 i).nm, .slice A k c, .string (row4 i).oid, .string (supNm i), .int .i64 (row4 i).syn, .int .i64 (row4 i).op]) ∧ Below w.heap.size w w'

theorem rowHit {fn : Func} (hres : fn.results = #[.cell 2 91]) {i : Nat} {w w' : World} {tm : Array Value} {A : Option Addr} {k c : Nat} {ty : TypeId} {fz : Nat × Nat} (hp : tm.getD 2 undef = .pointer (some ⟨w.heap.size, 0, none⟩))
    (hg : w'.heap[w.heap.size]? = some (.cells #[.string (row4 i).nm, .slice A k c, .string (row4 i).oid, .string (supNm i), .int .i64 (row4 i).syn, .int .i64 (row4 i).op] ty fz)) (hb : Below w.heap.size w w') : bodyPost Tryz.prog fn (RowPost i w) .ret ⟨tm, []⟩ w' :=
  bodyPost_ret (results_cell_row hres tm w' w.heap.size ty _ fz _ hp hg Tryz.underlying91 rfl (by kernel_rfl)) rfl ⟨A, k, c, rfl, hb⟩
theorem below1 (w : World) (o : Obj) : Below w.heap.size w (w.alloc o) := (Below.refl _ _).alloc (Nat.le_refl _) _
theorem below2 (w : World) (o p : Obj) : Below w.heap.size w ((w.alloc o).alloc p) := (below1 w o).alloc (by simp) _
theorem fitsNum {i : Nat} {k : Int} (h : (Lit.num k).fits (.int .i64 (i : Int)) = true) : i = k.toNat := by
  simp [Lit.fits] at h; omega
theorem fitsNot {i : Nat} {k : Int} (h : (Lit.num k).fits (.int .i64 (i : Int)) = false) : (i : Int) ≠ k := by
  simpa [Lit.fits] using h

set_option maxHeartbeats 16000000 in
theorem later_any (i : Nat) (h31 : 31 ≤ i) (h62 : i < 62) (w : World) : Calls Tryz.prog 128 #[.int .i64 i] w (RowPost i w) := by
  go_enter Tryz.func128, Tryz.ntmps128
  go_upto_block 0 with (fail)
  rename_i K hK
  clear hK
  refine wp_block ?_
  refine (fun a ha => ?_ : ∀ a, Sees 105 [(3, .int .i64 i), (2, .pointer (some ⟨w.heap.size, 0, none⟩)), (0, .int .i64 i)] a → Code.wp _ _ _ a _) _ (fr3 rfl rfl rfl rfl rfl)
  iterate 31
    refine wp_case (v := .int .i64 i) rfl (.head _) rfl ha (fun hl a' ha' => ?_) (fun hl a' ha' => ?_)
    · obtain ⟨tm, df⟩ := a'
      obtain ⟨hsz, rfl, hfr⟩ := ha'
      have h2 : tm.getD 2 undef = .pointer (some ⟨w.heap.size, 0, none⟩) := hfr (2, _) (by simp)
      have hi := fitsNum hl
      simp only [Int.reduceToNat] at hi
      subst hi
      change tm.size = 105 at hsz
      have h2' : tm[2]'(by omega) = .pointer (some ⟨w.heap.size, 0, none⟩) := by rw [← h2]; simp [hsz]
      clear hfr hl ha h2
      go_wp2
      first
        | exact rowHit rfl (by simp [hsz, h2']) (heap_alloc_new _ _) (below1 _ _)
        | exact rowHit rfl (by simp [hsz, h2']) (heap_alloc2_old _ _ _) (below2 _ _ _)
    have hx := hid (fitsNot hl)
    clear hl ha
    have ha := ha'
    clear ha'
  exfalso
  simp only [Hid] at *
  omega

set_option maxHeartbeats 16000000 in
theorem rows_any (i : Nat) (h62 : i < 62) (w : World) : Calls Tryz.prog 62 #[.int .i64 i] w (RowPost i w) := by
  go_enter Tryz.func62, Tryz.ntmps62
  go_upto_block 0 with (fail)
  rename_i K hK
  have HK := hid hK
  clear hK
  refine wp_block ?_
  refine (fun a ha => ?_ : ∀ a, Sees 109 [(3, .int .i64 i), (2, .pointer (some ⟨w.heap.size, 0, none⟩)), (0, .int .i64 i)] a → Code.wp _ _ _ a _) _ (fr3 rfl rfl rfl rfl rfl)
  iterate 31
    refine wp_case (v := .int .i64 i) rfl (.head _) rfl ha (fun hl a' ha' => ?_) (fun hl a' ha' => ?_)
    · obtain ⟨tm, df⟩ := a'
      obtain ⟨hsz, rfl, hfr⟩ := ha'
      have h2 : tm.getD 2 undef = .pointer (some ⟨w.heap.size, 0, none⟩) := hfr (2, _) (by simp)
      have hi := fitsNum hl
      simp only [Int.reduceToNat] at hi
      subst hi
      change tm.size = 109 at hsz
      have h2' : tm[2]'(by omega) = .pointer (some ⟨w.heap.size, 0, none⟩) := by rw [← h2]; simp [hsz]
      clear hfr hl ha h2 HK
      go_wp2
      first
        | exact rowHit rfl (by simp [hsz, h2']) (heap_alloc_new _ _) (below1 _ _)
        | exact rowHit rfl (by simp [hsz, h2']) (heap_alloc2_old _ _ _) (below2 _ _ _)
    have hx := hid (fitsNot hl)
    clear hl ha
    have ha := ha'
    clear ha'
  have hK := HK.out
  clear HK
  have h31 : 31 ≤ i := by
    clear hK ha
    simp only [Hid] at *
    omega
  refine wp_skip (hK _ _ ?_)
  obtain ⟨tm, df⟩ := a'
  obtain ⟨hsz, rfl, hfr⟩ := ha
  change tm.size = 109 at hsz
  have h2 : tm.getD 2 undef = .pointer (some ⟨w.heap.size, 0, none⟩) := hfr (2, _) (by simp)
  have h0 : tm.getD 0 undef = .int .i64 i := hfr (0, _) (by simp)
  have h2' : tm[2]'(by omega) = .pointer (some ⟨w.heap.size, 0, none⟩) := by rw [← h2]; simp [hsz]
  have h0' : tm[0]'(by omega) = .int .i64 i := by rw [← h0]; simp [hsz]
  clear hK hfr h2
  go_wp2_with (go_at_call 128; refine (later_any i h31 h62 _).mono ?_; rintro e w2 ⟨A, k, c, rfl, hb⟩
               have hg := (hb.block w.heap.size (by simp)).trans (heap_alloc_new w _)
               have c0 : w2.cell? ⟨w.heap.size, 0, none⟩ = some (.string ⟨#[]⟩) := blkCell hg 0
               have c1 : w2.cell? ⟨w.heap.size, 1, none⟩ = some (.slice none 0 0) := blkCell hg 1
               have c2 : w2.cell? ⟨w.heap.size, 2, none⟩ = some (.string ⟨#[]⟩) := blkCell hg 2
               have c3 : w2.cell? ⟨w.heap.size, 3, none⟩ = some (.string ⟨#[]⟩) := blkCell hg 3
               have c4 : w2.cell? ⟨w.heap.size, 4, none⟩ = some (.int .i64 0) := blkCell hg 4
               have c5 : w2.cell? ⟨w.heap.size, 5, none⟩ = some (.int .i64 0) := blkCell hg 5
               have f0 := blkFree hg 0; have f1 := blkFree hg 1; have f2 := blkFree hg 2; have f3 := blkFree hg 3; have f4 := blkFree hg 4; have f5 := blkFree hg 5
               have HG := hid hg; have HB := hid hb; clear hg hb)
  have B0 : Below w.heap.size w w2 := (below1 w _).trans (HB.out.mono (by simp))
  exact rowHit rfl (by simp [hsz, h2']) (blkSet (blkSet (blkSet (blkSet (blkSet (blkSet HG.out 0 _) 1 _) 2 _) 3 _) 4 _) 5 _)
    ((((((B0.setCell (Nat.le_refl _) _).setCell (Nat.le_refl _) _).setCell (Nat.le_refl _) _).setCell (Nat.le_refl _) _).setCell (Nat.le_refl _) _).setCell (Nat.le_refl _) _)
end Go.Proofs.YtfojfohfhomhbaaGreatDoor

namespace Go.Proofs.YtfojfohfhomhbaaGreatDoor
open Go.RowKit

theorem rowNm (a b c d e f : Value) (w : World) : (Instr.field 91 (.agg #[a, b, c, d, e, f]) 0).run Tryz.prog w = .ok a w := by kernel_rfl
theorem rowSup (a b c d e f : Value) (w : World) : (Instr.field 91 (.agg #[a, b, c, d, e, f]) 3).run Tryz.prog w = .ok d w := by kernel_rfl
theorem rowSyn (a b c d e f : Value) (w : World) : (Instr.field 91 (.agg #[a, b, c, d, e, f]) 4).run Tryz.prog w = .ok e w := by kernel_rfl
set_option maxHeartbeats 1600000 in
set_option maxRecDepth 100000 in
theorem canonical_any (t : ByteArray) (w : World) (hs : t.size ≤ 1099511627776) : Calls Tryz.prog 125 #[.string t] w fun e w' => e = .returned (.string (canonS t)) ∧ Below w.heap.size w w' := by
  go_enter Tryz.func125, Tryz.ntmps125
  cases h : find4 (foldS t) with
  | none =>
    have hi : idxI (find4 (foldS t)) = 0 := by rw [h]; rfl
    have hn : (find4 (foldS t)).isSome = false := by rw [h]; rfl
    have H := hid h
    clear h
    go_wp2_with (first
      | (go_at_call 115; refine (fold_any _ _ hs).mono ?_; rintro e w1 ⟨rfl, hb⟩)
      | (go_at_call 61; refine (byName_any _ _).mono ?_; rintro e w2 ⟨rfl, rfl⟩))
    go_ret
    exact retS2 (canon_none H.out) hb
  | some i =>
    have hi : idxI (find4 (foldS t)) = (i : Int) := by rw [h]; rfl
    have hn : (find4 (foldS t)).isSome = true := by rw [h]; rfl
    have hlt := find4_lt h
    have hnm := rowNm
    have H := hid h
    clear h
    go_wp2_with (first
      | (go_at_call 115; refine (fold_any _ _ hs).mono ?_; rintro e w1 ⟨rfl, hb⟩)
      | (go_at_call 61; refine (byName_any _ _).mono ?_; rintro e w2 ⟨rfl, rfl⟩)
      | (go_at_call 62; refine (rows_any i hlt _).mono ?_; rintro e w3 ⟨A, k, c, rfl, hb3⟩))
    go_ret
    exact retS2 (canon_some H.out) (belowNext hb hb3)

/-- What is still to be told of the chain. -/
def upS : Option Nat → List ByteArray
  | none => []
  | some i => chain4 3 i
def supO (i : Nat) : Option Nat := if (row4 i).sup < 0 then none else some (row4 i).sup.toNat
theorem upS_some {i : Nat} (h : i < 62) : upS (some i) = (row4 i).nm :: upS (supO i) := by
  show chain4 3 i = _
  rw [chain_eq h, supO]
  split <;> rfl
theorem find_supO {i : Nat} (h : i < 62) : find4 (supNm i) = supO i := find_sup i h
theorem supO_lt {i j : Nat} (h : i < 62) (hj : supO i = some j) : j < 62 := by
  unfold supO at hj
  split at hj
  · cases hj
  · injection hj with hj; have := sup_lt i h; omega
theorem upS_len {o : Option Nat} (h : ∀ i, o = some i → i < 62) : (upS o).length ≤ 3 := by
  cases o with
  | none => simp [upS]
  | some i => exact chain_len i (h i rfl)

def SupPost (t : ByteArray) (w : World) (e : Ending) (w' : World) : Prop := ∃ A cp, e = .returned (.slice A (supersS t).length cp) ∧ (supersS t).length ≤ cp ∧
    Rd w' w'.heap.size 1 A (supersS t).length (sv (supersS t)) ∧ Below w.heap.size w w'
theorem supOne {t : ByteArray} (h : find4 (foldS t) = none) {w w2 : World} {ty : TypeId} (hb : Below w.heap.size w w2) : SupPost t w (.returned (.slice (some ⟨w2.heap.size, 0, none⟩) 1 1)) (w2.alloc (.cells #[.string (foldS t)] ty)) := by
  have e : supersS t = [foldS t] := by rw [supersS, h]
  refine ⟨some ⟨w2.heap.size, 0, none⟩, 1, by rw [e]; rfl, by rw [e]; exact Nat.le_refl _, ?_, hb.alloc hb.size _⟩
  rw [e]
  refine ⟨rfl, fun _ => ⟨_, rfl, by simp, fun j u hu => ?_⟩⟩
  match j, hu with
  | 0, hu =>
    have e2 : (⟨w2.heap.size, 0, none⟩ : Addr).add 0 = ⟨w2.heap.size, 0, none⟩ := rfl
    rw [e2, cell_of_row _ _ _ _ _ _ (heap_alloc_new _ _)]; exact hu
theorem ownsBelow {w w' : World} {base e sz n : Nat} {v : Value} {xs : List Value} (h : w.ownsRow base e sz v n xs) (hb : Below w.heap.size w w') : w'.ownsRow base e sz v n xs :=
  h.kept (growBelow hb none) (by cases v.ownBlock <;> simp)
def slotO (i ok : Value) : Option Nat := match ok with
  | .bool true => some (intOf i).toNat
  | _ => none
theorem supers_len (t : ByteArray) : (supersS t).length ≤ 3 := by
  rw [supersS]
  cases h : find4 (foldS t) with
  | none => simp
  | some i => exact chain_len i (find4_lt h)
theorem supDone {t : ByteArray} {w w' : World} {done : List ByteArray} {A : Option Addr} {cp : Nat} (h : done ++ upS none = supersS t) (hc : done.length ≤ cp) (hown : w'.ownsRow w.heap.size 9 1 (.slice A done.length cp) done.length (sv done)) (hb : Below w.heap.size w w') : SupPost t w (.returned (.slice A done.length cp)) w' := by
  have e : done = supersS t := by rw [← h]; simp [upS]
  subst e
  exact ⟨A, cp, rfl, hc, Rd.ofOwn hown, hb⟩
theorem slotO_of (o : Option Nat) : slotO (.int .i64 (idxI o)) (.bool o.isSome) = o := by cases o <;> simp [slotO, idxI, intOf]

set_option maxHeartbeats 1600000 in
set_option maxRecDepth 100000 in
theorem supers_any (t : ByteArray) (w : World) (hs : t.size ≤ 1099511627776) : Calls Tryz.prog 131 #[.string t] w (SupPost t w) := by
  go_enter Tryz.func131, Tryz.ntmps131
  cases h : find4 (foldS t) with
  | none =>
    have hi : idxI (find4 (foldS t)) = 0 := by rw [h]; rfl
    have hn : (find4 (foldS t)).isSome = false := by rw [h]; rfl
    have H := hid h
    clear h
    go_wp2_with (first
      | (go_at_call 115; refine (fold_any _ _ hs).mono ?_; rintro e w1 ⟨rfl, hb⟩; first | (have hb0 := belowNext hb0 hb; clear hb) | (have hb0 := hb; clear hb))
      | (go_at_call 61; refine (byName_any _ _).mono ?_; rintro e w2 ⟨rfl, rfl⟩))
    go_ret
    exact supOne H.out hb0
  | some i =>
    have hi : idxI (find4 (foldS t)) = (i : Int) := by rw [h]; rfl
    have hn : (find4 (foldS t)).isSome = true := by rw [h]; rfl
    have hlt := find4_lt h
    have HS := hid (show upS (some i) = supersS t by rw [supersS, h]; rfl)
    clear h
    go_wp2_with (first
      | (go_at_call 115; refine (fold_any _ _ hs).mono ?_; rintro e w1 ⟨rfl, hb⟩)
      | (go_at_call 61; refine (byName_any _ _).mono ?_; rintro e w2 ⟨rfl, rfl⟩))
    go_loopw [3, 4, 5] (fun i ok l wr => ∃ (o : Option Nat) (done : List ByteArray), (∀ i, o = some i → i < 62) ∧ i = .int .i64 (idxI o) ∧ ok = .bool o.isSome ∧
        wr.ownsRow w.heap.size 9 1 l done.length (sv done) ∧ Hid (done ++ upS o = supersS t) ∧ Below w.heap.size w wr) (fun i ok _ _ => (upS (slotO i ok)).length)
    case atStart => exact ⟨some i, [], fun j hj => by injection hj with hj; omega, rfl, rfl, World.ownsRow_nil _ _ _ _, HS, hb⟩
    case round =>
      clear hi hn hlt HS
      obtain ⟨o, done, ho, rfl, rfl, hown, HS, hbr⟩ := hrel
      have hdl : done.length ≤ 3 := by have h1 := congrArg List.length HS.out; have h2 := supers_len t; simp at h1; omega
      cases o with
      | none =>
        obtain ⟨A, cp, rfl, hcp⟩ := ownForm hown
        have ho2 : (none : Option Nat).isSome = false := rfl
        clear ho
        go_wp2
        go_ret
        exact supDone HS.out hcp hown hbr
      | some j =>
        have hj := ho j rfl
        have hx : idxI (some j) = (j : Int) := rfl
        have ho2 : (some j).isSome = true := rfl
        have hnm := rowNm
        have hsp := rowSup
        have hf : find4 (supNm j) = supO j := find_supO hj
        have HU := hid (upS_some hj)
        have HL := hid (fun k hk => supO_lt (j := k) hj hk)
        clear ho
        go_wp2_with (first
          | (go_at_call 62; refine (rows_any j hj _).mono ?_; rintro e w2 ⟨A, c1, c2, rfl, hb2⟩; first | (have hown2 := ownsBelow hown hb2; have hbr2 := belowNext hbr hb2; clear hown hbr hb2) | (have hown4 := ownsBelow hown3 hb2; have hbr4 := belowNext hbr3 hb2; clear hown3 hbr3 hb2))
          | (at_builtin; refine app1 rfl (.tmp 18) (.tmp 22) 23 rfl 9 _ 16 Tryz.underlying23 info_str rfl _ _ _ rfl hown2 rfl rfl hbr2 (by omega) (by omega) ?_; intro v1 w3 hown3 hbr3; clear hown2 hbr2)
          | (go_at_call 61; refine (byName_any _ _).mono ?_; rintro e w4 ⟨rfl, rfl⟩))
        go_roundw
        case rel => exact ⟨supO j, done ++ [(row4 j).nm], HL.out, rfl, rfl, by rw [sv_snoc]; simpa using hown4, hid (by rw [← HS.out, HU.out]; simp), hbr4⟩
        case measure => rw [slotO_of, slotO_of, HU.out]; simp
end Go.Proofs.YtfojfohfhomhbaaGreatDoor

namespace Go.Proofs.YtfojfohfhomhbaaGreatDoor
open Go.RowKit

/-- The mark behind a list. -/
def spareS : ByteArray := ⟨#[115, 112, 97, 114, 101, 32, 114, 111, 111, 109]⟩
/-- A list in memory of its own with the mark behind it. -/
def Roomy (L : List ByteArray) (base : Nat) (w : World) (v : Value) : Prop := ∃ (g c : Nat), v = .slice (some ⟨g, 0, none⟩) L.length c ∧ base ≤ g ∧ w.ownsRow base 9 1 (.slice (some ⟨g, 0, none⟩) (L.length + 1) c) (L.length + 1) (sv L ++ [.string spareS])

theorem roomyOf {L : List ByteArray} {base n c2 : Nat} {w2 : World} {A2 : Option Addr} (hl : L.length = n) (h : w2.ownsRow base 9 1 (.slice A2 (0 + n + 1) c2) (0 + n + 1) ([] ++ sv L ++ [.string ⟨#[115, 112, 97, 114, 101, 32, 114, 111, 111, 109]⟩])) : Roomy L base w2 (.slice A2 n c2) := by
  subst hl
  rw [Nat.zero_add, List.nil_append] at h
  rcases h.2 with ⟨h0, _⟩ | ⟨g, cap, cur, hv, hg, _⟩
  · injection h0 with _ h1 _; omega
  · injection hv with h1 _ h3
    subst h1
    exact ⟨g, c2, rfl, hg, h⟩
theorem Roomy.below {L : List ByteArray} {base : Nat} {w w' : World} {v : Value} (h : Roomy L base w v) (hb : Below w.heap.size w w') : Roomy L base w' v := by
  obtain ⟨g, c, e, hg, ho⟩ := h
  exact ⟨g, c, e, hg, ownsBelow ho hb⟩
/-- As a list to be read. -/
theorem Roomy.form {L : List ByteArray} {base : Nat} {w : World} {v : Value} (h : Roomy L base w v) : ∃ (g c : Nat), v = .slice (some ⟨g, 0, none⟩) L.length c ∧ base ≤ g ∧ L.length + 1 ≤ c ∧ g < w.heap.size ∧ Rd w w.heap.size 1 (some ⟨g, 0, none⟩) L.length (sv L) ∧ w.cell? ⟨g, L.length, none⟩ = some (.string spareS) := by
  obtain ⟨g, c, e, hg, ho⟩ := h
  have hr := Rd.ofOwn ho
  obtain ⟨ad, e1, hb, hc⟩ := hr.2 (by omega)
  injection e1 with e1
  subst e1
  refine ⟨g, c, e, hg, ?_, hb, ⟨by simp, fun _ => ⟨_, rfl, hb, fun j u hu => hc j u ?_⟩⟩, ?_⟩
  · obtain ⟨_, _, h1, h2⟩ := ownForm ho
    injection h1 with _ _ h3
    omega
  · have hj : j < (sv L).length := (List.getElem?_eq_some_iff.1 hu).1
    rw [List.getElem?_append_left hj]; exact hu
  · have h1 := hc L.length (.string spareS) (by rw [List.getElem?_append_right (by simp)]; simp)
    have e2 : (⟨g, 0, none⟩ : Addr).add L.length = ⟨g, L.length, none⟩ := by by_cases h0 : L.length = 0 <;> simp [Addr.add, h0]
    rw [← e2]; exact h1
set_option maxHeartbeats 1600000 in
theorem roomy_any (L : List ByteArray) (A : Option Addr) (n c : Nat) (w : World) (hr : Rd w w.heap.size 1 A n (sv L)) (hc : SlOk A n c) (hn : n ≤ 1099511) :
    Calls Tryz.prog 12 #[.slice A n c] w fun e w' => ∃ v, e = .returned v ∧ Roomy L w.heap.size w' v ∧ Below w.heap.size w w' := by
  have HR := hid hr
  have HC := hid hc
  have hl : L.length = n := by have := hr.1; simpa using this
  have HL := hid hl
  clear hr hc hl
  go_enter Tryz.func12, Tryz.ntmps12
  have hown0 : (w.alloc (.cells #[] 9)).ownsRow w.heap.size 9 1 (.slice (some ⟨w.heap.size, 0, none⟩) 0 0) 0 [] := ⟨rfl, .inr ⟨w.heap.size, 0, #[], rfl, Nat.le_refl _, heap_alloc_new _ _, Nat.le_refl _, Nat.zero_le _, rfl, rfl⟩⟩
  have HB0 := hid (below1 w (.cells #[] 9))
  have HR1 := hid (HR.out.up HB0.out)
  have hs0 := HB0.out.size
  go_wp2_with (first
    | (at_builtin; refine app2 rfl _ _ 23 rfl w.heap.size 9 _ 16 Tryz.underlying23 info_str rfl _ _ _ rfl hown1 rfl rfl (by omega) (by omega) (by omega) ?_
       intro v2 w2 hown2 hb2
       obtain ⟨A2, c2, rfl, hc2⟩ := ownForm hown2
       have HB2 := hid (HB1.out.trans hb2)
       have HO2 := hid hown2
       clear hown2 hb2 hown1)
    | (at_builtin; refine app3 rfl _ _ 23 rfl w.heap.size 9 _ 1 16 Tryz.underlying23 info_str rfl (by decide) _ _ _ rfl hown0 A n c _ (sv L) rfl HC.out HR1.out (sv_one _) (by omega) (by omega) (by omega) ?_
       intro v1 w1 hown1 hb1
       have HB1 := hid (HB0.out.trans hb1)
       have hs1 := HB1.out.size
       clear hb1 hown0))
  go_ret
  exact ⟨_, rfl, roomyOf HL.out HO2.out, HB2.out⟩

set_option maxHeartbeats 1600000 in
theorem spared_any (L : List ByteArray) (base : Nat) (v : Value) (w : World) (h : Roomy L base w v) (hn : L.length ≤ 1099511) : Calls Tryz.prog 10 #[v] w fun e w' => e = .returned (.bool true) ∧ w = w' := by
  obtain ⟨g, c, rfl, _, hc, _, _, hcell⟩ := h.form
  obtain ⟨n, hl⟩ : ∃ n, n = L.length := ⟨_, rfl⟩
  rw [← hl] at hn hc hcell ⊢
  have hcell2 : w.cell? ⟨g, n, none⟩ = some (.string ⟨#[115, 112, 97, 114, 101, 32, 114, 111, 111, 109]⟩) := hcell
  clear hcell h hl
  go_enter Tryz.func10, Tryz.ntmps10
  go_wp2
  go_ret
  exact ⟨rfl, rfl⟩

def SamePost (w : World) (e : Ending) (w' : World) : Prop := e = .returned (.bool true) ∧ ∃ q, w' = w.drewN q
set_option maxHeartbeats 3200000 in
set_option maxRecDepth 100000 in
theorem sametexts_any (a : List ByteArray) (A B : Option Addr) (n ca cb K M : Nat) (w : World) (hra : Rd w K 1 A n (sv a)) (hrb : Rd w M 1 B n (sv a)) (hn : n ≤ 1099511627777) :
    Calls Tryz.prog 21 #[.slice A n ca, .slice B n cb] w (SamePost w) := by
  have HA := hid hra
  have HB := hid hrb
  clear hra hrb
  go_enter Tryz.func21, Tryz.ntmps21
  go_wp2
  go_loopw [5] (fun i wr => ∃ k q : Nat, k ≤ n ∧ i = .int .i64 k ∧ wr = w.drewN q) (fun i _ => n - (intOf i).toNat)
  case atStart => exact ⟨0, 0, Nat.zero_le _, rfl, rfl⟩
  case round =>
    obtain ⟨k, q, hk, rfl, rfl⟩ := hrel
    by_cases hlt : k < n
    · obtain ⟨ad, rfl, hka, hca⟩ := svCell HA.out hlt
      obtain ⟨bd, rfl, hkb, hcb⟩ := svCell HB.out hlt
      obtain ⟨x, hx⟩ : ∃ x, x = a[k] := ⟨_, rfl⟩
      rw [← hx] at hca hcb
      have i2 : (k : Int) < n := by omega
      have i4 : (0 : Int) ≤ k := by omega
      clear hx hka hkb
      go_wp2
      go_quiet (fail)
      go_wp2
      go_roundw
      case rel => exact ⟨k + 1, q + nq, by omega, by go_num, rfl⟩
      case measure => simp [intOf]; omega
    · go_wp2
      go_ret
      exact ⟨rfl, _, rfl⟩
end Go.Proofs.YtfojfohfhomhbaaGreatDoor
