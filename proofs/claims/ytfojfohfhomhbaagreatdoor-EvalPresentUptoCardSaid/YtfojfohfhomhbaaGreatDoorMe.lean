/- Plain: the library's cutting of a text at one byte is 'spl'. The library's cutting and sorting at this program: the shelf's contracts in this proof's words. Words for a map of counts whose keys are texts: what it holds, 'clear', the keys gathered. -/
import Derived.Test.YtfojfohfhomhbaaGreatDoorMa
import Derived.Lib.SplitLaws
import Derived.Test.YtfojfohfhomhbaaGreatDoorLaid
import Derived.Test.YtfojfohfhomhbaaGreatDoorMb
import Derived.Test.YtfojfohfhomhbaaGreatDoorMd
import Derived.Sort.OwnSorted
import Derived.Maps.OwnSet
import Derived.Maps.RangeWalk
import Derived.Sort.KeysCollected
namespace Go.Proofs.YtfojfohfhomhbaaGreatDoor

theorem index_nil1 (c : UInt8) : Lib.index [] [c] = -1 := by simp [Lib.index]
theorem index_eq1 (c : UInt8) (l : List UInt8) : Lib.index (c :: l) [c] = 0 := by rw [Lib.index]; simp [List.isPrefixOf]
theorem index_ne1 (b c : UInt8) (l : List UInt8) (h : b ≠ c) : Lib.index (b :: l) [c] = if Lib.index l [c] == -1 then -1 else Lib.index l [c] + 1 := by
  have hp : ([c] : List UInt8).isPrefixOf (b :: l) = false := by simp [List.isPrefixOf, Ne.symm h]
  rw [Lib.index, hp]; simp
theorem index_pos1 (c : UInt8) (l : List UInt8) (h : 0 < l.count c) : ∃ j : Nat, Lib.index l [c] = j := by
  have hge := Lib.index_ge l [c]
  by_cases hm : Lib.index l [c] = -1
  · have := Lib.count_miss hm
    rw [Lib.count_one] at this; omega
  · exact ⟨(Lib.index l [c]).toNat, by omega⟩
theorem splitK_spl (c : UInt8) : ∀ l : List UInt8, Lib.splitK [c] 0 (l.count c) l = (spl c l).1 :: (spl c l).2
  | [] => rfl
  | x :: l => by
    have ih := splitK_spl c l
    by_cases h : x = c
    · subst h
      rw [List.count_cons_self, Lib.splitK, index_eq1]
      simp [spl, ih]
    · rw [List.count_cons_of_ne (by simpa using h)]
      have e1 : spl c (x :: l) = (x :: (spl c l).1, (spl c l).2) := by simp [spl, h]
      rw [e1]
      cases hk : l.count c with
      | zero =>
        rw [hk] at ih
        simp only [Lib.splitK, List.cons.injEq] at ih ⊢
        exact ⟨⟨trivial, ih.1⟩, ih.2⟩
      | succ k =>
        obtain ⟨j, hj⟩ := index_pos1 c l (by omega)
        rw [hk] at ih
        have hi : Lib.index (x :: l) [c] = ((j + 1 : Nat) : Int) := by
          rw [index_ne1 x c l h, hj]
          have : ((j : Int) == -1) = false := by simp
          rw [this]; simp
        have n1 : ((j : Int) == -1) = false := by simp
        have n2 : (((j + 1 : Nat) : Int) == -1) = false := by simp; omega
        rw [Lib.splitK, hj, n1] at ih
        rw [Lib.splitK, hi, n2]
        simp only [Bool.false_eq_true, if_false, Int.toNat_natCast, Nat.add_zero, List.length_cons, List.length_nil, Nat.zero_add, List.take_succ_cons, List.drop_succ_cons, List.cons.injEq] at ih ⊢
        exact ⟨⟨trivial, ih.1⟩, ih.2⟩
theorem splitB_pieces (c : UInt8) (s : ByteArray) : Lib.splitB ⟨#[c]⟩ 0 (Lib.countB s ⟨#[c]⟩) s = pieces c s := by
  have h1 := Lib.splitB_data ⟨#[c]⟩ 0 (Lib.countB s ⟨#[c]⟩) s
  have h2 : Lib.countB s ⟨#[c]⟩ = (byt s).count c := by show Lib.count s.data.toList [c] = _; rw [Lib.count_one]; rfl
  rw [h2] at h1 ⊢
  have h3 : (Lib.splitB ⟨#[c]⟩ 0 ((byt s).count c) s).map byt = (pieces c s).map byt := by
    have : (Lib.splitB ⟨#[c]⟩ 0 ((byt s).count c) s).map byt = Lib.splitK [c] 0 ((byt s).count c) (byt s) := h1
    rw [this, splitK_spl]; simp [pieces, Function.comp_def]
  have := congrArg (List.map bs) h3
  simpa [List.map_map, Function.comp_def] using this
end Go.Proofs.YtfojfohfhomhbaaGreatDoor

namespace Go.Proofs.YtfojfohfhomhbaaGreatDoor
open Go.RowKit Go.Sort

/-- The library's variable that its searching reads holds some number. -/
def MaxAt (w : World) : Prop := ∃ m : Int, w.cell? ⟨5, 0, none⟩ = some (.int .i64 m)
theorem MaxAt.lt {w : World} (h : MaxAt w) : 5 < w.heap.size := by
  obtain ⟨m, hm⟩ := h
  exact World.block_lt_of_cell? _ _ hm
theorem MaxAt.below {w w' : World} {K : Nat} (h : MaxAt w) (hK : w.heap.size ≤ K) (hb : Below K w w') : MaxAt w' := by
  have hl := h.lt
  obtain ⟨m, hm⟩ := h
  exact ⟨m, ((hb.mono hK).cell (p := ⟨5, 0, none⟩) hl).trans hm⟩

def SplPost (s : ByteArray) (w : World) (e : Ending) (w' : World) : Prop := ∃ n : Nat, e = .returned (.slice (some ⟨w.heap.size, 0, none⟩) n n) ∧ n = (pieces 59 s).length ∧ w'.heap.size = w.heap.size + 1 ∧
  Rd w' w'.heap.size 1 (some ⟨w.heap.size, 0, none⟩) n (sv (pieces 59 s)) ∧ Below w.heap.size w w'
theorem rdNew (w : World) (L : List ByteArray) (t : TypeId) : Rd (w.alloc (.cells (L.map Value.string).toArray t)) (w.heap.size + 1) 1 (some ⟨w.heap.size, 0, none⟩) L.length (sv L) := by
  refine ⟨by simp, fun _ => ⟨_, rfl, Nat.lt_succ_self _, fun j u hu => ?_⟩⟩
  have e1 : (⟨w.heap.size, 0, none⟩ : Addr).add j = ⟨w.heap.size, j, none⟩ := by by_cases h0 : j = 0 <;> simp [Addr.add, h0]
  rw [e1, cell_of_row _ _ _ _ _ _ (heap_alloc_new _ _)]
  simpa [sv] using hu
theorem split_any (s : ByteArray) (w : World) (hs : s.size ≤ 1099511) (hm : MaxAt w) : Calls Tryz.prog 124 #[.string s, .string ⟨#[59]⟩] w (SplPost s w) := by
  obtain ⟨m, hm⟩ := hm
  refine (Any.strings_Split Tryz.lays146 (by kernel_rfl) s ⟨#[59]⟩ m w (by omega) hm (by decide)).mono ?_
  rintro e w' ⟨rfl, rfl⟩
  have h1 := Lib.splitB_all ⟨#[59]⟩ (by decide) 0 _ s rfl
  rw [splitB_pieces 59 s] at h1 ⊢
  refine ⟨_, rfl, h1.symm, by simp, ?_, below1 _ _⟩
  rw [← h1]
  have := rdNew w (pieces 59 s) (Tryz.lays146_ren.t 9)
  simpa using this
theorem sortStrings_any (blk off cap : Nat) (ss : List (List UInt8)) (w : World) (hH : Holds encStr w blk off ss.toArray) (hblk : blk < w.heap.size) (hsz : ss.length < 4611686018427387904) :
    Calls Tryz.prog 126 #[.slice (some ⟨blk, off, none⟩) ss.length cap] w fun e w' =>
      e = .returned (.tuple #[]) ∧ ∃ n os, w' = grow (putRow encStr (Sort.ahead w n) blk off (ss.mergeSort fun x y => decide (x ≤ y)).toArray) os :=
  Any.sort_Strings Tryz.lays192 blk off cap ss w hH hblk hsz
theorem sortNone_any (p : Option Addr) (cap : Nat) (w : World) : Calls Tryz.prog 126 #[.slice p 0 cap] w fun e w' => e = .returned (.tuple #[]) ∧ w' = w :=
  Any.sort_Strings_none Tryz.lays192 p cap w
end Go.Proofs.YtfojfohfhomhbaaGreatDoor

namespace Go.Proofs.YtfojfohfhomhbaaGreatDoor
open Go.RowKit Go.Maps Go.ChangeMaps Go.MapKept Go.WideShapes

/-- D's keys are the texts of L; every count lies between 0 and n. -/
def KeysIn (D : DataW Unit) (L : List ByteArray) (n : Nat) : Prop :=
  IsMap D ∧ (∀ x : List UInt8, has D (.string x) = true ↔ bs x ∈ L) ∧ ∀ (x : List UInt8) (c : Int), D.atKey (.string x) (.lit (.int .i64 0)) = .lit (.int .i64 c) → 0 ≤ c ∧ c ≤ n
theorem KeysIn.zero : KeysIn (.map []) [] 0 :=
  ⟨isMap_empty, fun x => by simp [has_eq], fun x c h => by
    have h : (DataW.lit (.int .i64 0) : DataW Unit) = .lit (.int .i64 c) := h
    injection h with h
    injection h with _ h
    subst h
    exact ⟨Int.le_refl _, Int.le_refl _⟩⟩
theorem bs_inj {x y : List UInt8} (h : bs x = bs y) : x = y := by have := congrArg byt h; simpa using this
theorem KeysIn.put {D : DataW Unit} {L : List ByteArray} {n : Nat} (h : KeysIn D L n) (t : ByteArray) (c : Int) (hc : 0 ≤ c ∧ c ≤ n + 1) :
    KeysIn (D.put (.string (byt t)) (.lit (.int .i64 c))) (L ++ [t]) (n + 1) := by
  refine ⟨h.1.put _ _, fun x => ?_, fun x c' h' => ?_⟩
  · by_cases hx : x = byt t
    · subst hx
      rw [has_put_same h.1 (show WideAt.IsKeyLit (.string (byt t)) from True.intro)]; simp
    · rw [has_put_other (by simpa using hx), h.2.1, List.mem_append, List.mem_singleton]
      exact ⟨.inl, fun h1 => h1.elim id fun e => absurd (by rw [← e, byt_bs]) hx⟩
  · by_cases hx : x = byt t
    · subst hx
      rw [atKey_put_same h.1 (show WideAt.IsKeyLit (.string (byt t)) from True.intro)] at h'
      injection h' with h'
      injection h' with _ h'
      subst h'
      exact ⟨hc.1, by have := hc.2; omega⟩
    · rw [atKey_put_other (by simpa using hx)] at h'
      have := h.2.2 x c' h'
      exact ⟨this.1, by omega⟩

/-- 'clear(m)': the map's block alone turns. -/
theorem wpList_clear_own {P : Program} (w : World) {ops : Array Oper} {rest : List Oper} {o : Oper} {a : Act} {Q : Exit → Act → World → Prop} (hg : o.guard = none) (m : Operand) (t : TypeId)
    (hop : o.op = .call { callee := .builtin .clear, args := #[m], argTypes := #[t] }) (k e : TypeId) (ht : P.underlying t = some (.map k e)) (b : Nat) (R : Value → Option (DataW Unit × List MemPlace)) (n : Nat) (D : DataW Unit)
    (hm : a.eval m = .map (some b)) (hown : w.ownsMap P k R b n D) (hK : ∀ w', w.grownBy w' (some b) → wpList P ops Q rest (a.put o.dst (.tuple #[])) w') : wpList P ops Q (o :: rest) a w := by
  obtain ⟨es, clock, hb, _⟩ := hown
  refine wpList_plain hg fun K' hK' => ?_
  have hgr : w.grownBy (setBlock w b (.map #[] clock)) (some b) := ⟨rfl, rfl, rfl, by simp [setBlock], fun i _ hi => heap_setBlock_other hb _ (fun e => hi (by rw [e]))⟩
  unfold Oper.wp
  simp [execOp, hop, resolve, invoke, builtin, hm, Builtin.clear_, run_underlying ht, MapKept.run_getObj_map hb, MapKept.run_setObj_map _ hb, Result.andThen]
  exact hK' _ _ (hK _ hgr)
theorem rangesOf {H : Type} {P : Program} {k : TypeId} {R : Value → Option (DataW H × List MemPlace)} {w w' : World} {b r n : Nat} {D : DataW H} {left : Go.Lit → Bool} {cnt : Nat} (h : w.ranges P k R b r n D left cnt) (hb : w'.heap[b]? = w.heap[b]?) (hr : w'.heap[r]? = w.heap[r]?) : w'.ranges P k R b r n D left cnt := by
  obtain ⟨es, clock, since, seen, c0, h1, F, hs, hD, h2, rest⟩ := h
  exact ⟨es, clock, since, seen, c0, hb.trans h1, F, hs, hD, hr.trans h2, rest⟩
end Go.Proofs.YtfojfohfhomhbaaGreatDoor
