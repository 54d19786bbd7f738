/- Plain: rising lists of texts: two merged into one, one held within another. Plain: sorting by halves, and what is collected of a list. What both readings of a description answer with. -/
import Derived.Test.YtfojfohfhomhbaaGreatDoorMa
import GoSem.Op.String
import Derived.Test.YtfojfohfhomhbaaGreatDoorMb
import Derived.Test.YtfojfohfhomhbaaGreatDoorMd
namespace Go.Proofs.YtfojfohfhomhbaaGreatDoor

theorem less_eq : ∀ x y : List UInt8, Op.bytesLess x y = decide (x < y)
  | [], [] => by simp [Op.bytesLess]
  | _ :: _, [] => by simp [Op.bytesLess]
  | [], _ :: _ => by simp [Op.bytesLess]
  | a :: x, b :: y => by
    rw [Op.bytesLess, less_eq x y]
    by_cases h : a < b
    · simp [h]; exact List.cons_lt_cons_iff.2 (.inl h)
    · by_cases h2 : a = b
      · subst h2; simp
      · simp [h, h2, List.cons_lt_cons_iff]
/-- One text stands ahead of another. -/
def ltB (x y : ByteArray) : Bool := Op.bytesLess x.toList y.toList
theorem ltB_iff (x y : ByteArray) : ltB x y = true ↔ byt x < byt y := by rw [ltB, less_eq, toL, toL]; simp
theorem ltB_irr (x : ByteArray) : ltB x x = false := by
  cases h : ltB x x with
  | false => rfl
  | true => rw [ltB_iff] at h; exact absurd h (List.lt_irrefl _)
theorem ltB_trans {x y z : ByteArray} (h1 : ltB x y = true) (h2 : ltB y z = true) : ltB x z = true := by
  rw [ltB_iff] at *; exact List.lt_trans h1 h2
theorem ltB_tri {x y : ByteArray} (h1 : ltB x y = false) (h2 : ltB y x = false) : x = y := by
  have h1' : ¬ byt x < byt y := fun h => by rw [← ltB_iff] at h; rw [h1] at h; cases h
  have h2' : ¬ byt y < byt x := fun h => by rw [← ltB_iff] at h; rw [h2] at h; cases h
  exact byt_inj (List.le_antisymm (List.not_lt.1 h2') (List.not_lt.1 h1'))
def Rising (l : List ByteArray) : Prop := l.Pairwise fun x y => ltB x y = true

/-- The reference's merging. -/
def mrg : List ByteArray → List ByteArray → List ByteArray
  | [], b => b
  | x :: a, [] => x :: a
  | x :: a, y :: b => if ltB x y = true then x :: mrg a (y :: b) else if ltB y x = true then y :: mrg (x :: a) b else mrg a (y :: b)
termination_by a b => a.length + b.length
theorem mrg_nil (a : List ByteArray) : mrg a [] = a := by cases a <;> simp [mrg]
theorem mrg_mem (t : ByteArray) : ∀ a b : List ByteArray, t ∈ mrg a b ↔ t ∈ a ∨ t ∈ b
  | [], b => by simp [mrg]
  | x :: a, [] => by simp [mrg]
  | x :: a, y :: b => by
    rw [mrg]
    split
    · rw [List.mem_cons, mrg_mem t a (y :: b)]; simp [or_assoc]
    · split
      · rw [List.mem_cons, mrg_mem t (x :: a) b]
        simp only [List.mem_cons]
        constructor
        · rintro (h | (h | h) | h) <;> simp [h]
        · rintro ((h | h) | (h | h)) <;> simp [h]
      · rw [mrg_mem t a (y :: b)]
        rename_i h1 h2
        have : x = y := ltB_tri (by simpa using h1) (by simpa using h2)
        subst this
        simp only [List.mem_cons]
        constructor
        · rintro (h | h | h) <;> simp [h]
        · rintro ((h | h) | (h | h)) <;> simp [h]
termination_by a b => a.length + b.length
theorem mrg_rising : ∀ a b : List ByteArray, Rising a → Rising b → Rising (mrg a b)
  | [], b, _, hb => by rw [mrg]; exact hb
  | x :: a, [], ha, _ => by rw [mrg]; exact ha
  | x :: a, y :: b, ha, hb => by
    have ha' := List.pairwise_cons.1 ha
    have hb' := List.pairwise_cons.1 hb
    rw [mrg]
    split
    · rename_i h
      refine List.pairwise_cons.2 ⟨fun t ht => ?_, mrg_rising a (y :: b) ha'.2 hb⟩
      rcases (mrg_mem t a (y :: b)).1 ht with ht | ht
      · exact ha'.1 t ht
      · rcases List.mem_cons.1 ht with rfl | ht
        · exact h
        · exact ltB_trans h (hb'.1 t ht)
    · split
      · rename_i h
        refine List.pairwise_cons.2 ⟨fun t ht => ?_, mrg_rising (x :: a) b ha hb'.2⟩
        rcases (mrg_mem t (x :: a) b).1 ht with ht | ht
        · rcases List.mem_cons.1 ht with rfl | ht
          · exact h
          · exact ltB_trans h (ha'.1 t ht)
        · exact hb'.1 t ht
      · exact mrg_rising a (y :: b) ha'.2 hb
termination_by a b => a.length + b.length
theorem mrg_length : ∀ a b : List ByteArray, (mrg a b).length ≤ a.length + b.length
  | [], b => by simp [mrg]
  | x :: a, [] => by simp [mrg]
  | x :: a, y :: b => by
    rw [mrg]
    split
    · have := mrg_length a (y :: b); simp at *; omega
    · split
      · have := mrg_length (x :: a) b; simp at *; omega
      · have := mrg_length a (y :: b); simp at *; omega
termination_by a b => a.length + b.length

/-! ### 'within': all of a rising list stand in another -/
/-- What the loops know when a's first i are found and b's first j stand ahead of a's next. -/
def WithAt (a b : List ByteArray) (i j : Nat) : Prop := (∀ t ∈ a.take i, t ∈ b) ∧ ∀ t ∈ b.take j, ∀ u ∈ a.drop i, ltB t u = true
theorem WithAt.zero (a b : List ByteArray) : WithAt a b 0 0 := ⟨by simp, by simp⟩
theorem rising_head {a : List ByteArray} {i : Nat} (ha : Rising a) (hi : i < a.length) : ∀ u ∈ a.drop i, u = a[i] ∨ ltB a[i] u = true := by
  intro u hu
  rw [List.drop_eq_getElem_cons hi] at hu
  rcases List.mem_cons.1 hu with rfl | hu
  · exact .inl rfl
  · have hd : Rising (a.drop i) := List.Pairwise.sublist (List.drop_sublist i a) ha
    rw [List.drop_eq_getElem_cons hi] at hd
    exact .inr ((List.pairwise_cons.1 hd).1 u hu)
theorem WithAt.skip {a b : List ByteArray} {i j : Nat} (h : WithAt a b i j) (ha : Rising a) (hi : i < a.length) (hj : j < b.length) (hl : ltB b[j] a[i] = true) : WithAt a b i (j + 1) := by
  refine ⟨h.1, fun t ht u hu => ?_⟩
  rw [List.take_succ_eq_append_getElem hj, List.mem_append, List.mem_singleton] at ht
  rcases ht with ht | rfl
  · exact h.2 t ht u hu
  · rcases rising_head ha hi u hu with rfl | hu
    · exact hl
    · exact ltB_trans hl hu
theorem WithAt.found {a b : List ByteArray} {i j : Nat} (h : WithAt a b i j) (hi : i < a.length) (hj : j < b.length) (he : b[j] = a[i]) : WithAt a b (i + 1) j := by
  refine ⟨fun t ht => ?_, fun t ht u hu => h.2 t ht u ?_⟩
  · rw [List.take_succ_eq_append_getElem hi, List.mem_append, List.mem_singleton] at ht
    rcases ht with ht | rfl
    · exact h.1 t ht
    · rw [← he]; exact List.getElem_mem hj
  · rw [List.drop_eq_getElem_cons hi]; exact List.mem_cons_of_mem _ hu
theorem WithAt.out {a b : List ByteArray} {i j : Nat} (h : WithAt a b i j) (hi : i < a.length) (hj : b.length ≤ j) : ¬ ∀ t ∈ a, t ∈ b := by
  intro hall
  have hm := hall _ (List.getElem_mem hi)
  have := h.2 a[i] (by rw [List.take_of_length_le hj]; exact hm) a[i] (by rw [List.drop_eq_getElem_cons hi]; exact List.mem_cons_self)
  rw [ltB_irr] at this; cases this
theorem WithAt.miss {a b : List ByteArray} {i j : Nat} (h : WithAt a b i j) (hb : Rising b) (hi : i < a.length) (hj : j < b.length) (hl : ltB b[j] a[i] = false) (hne : b[j] ≠ a[i]) : ¬ ∀ t ∈ a, t ∈ b := by
  intro hall
  have hm := hall _ (List.getElem_mem hi)
  rw [← List.take_append_drop j b, List.mem_append] at hm
  rcases hm with hm | hm
  · have := h.2 a[i] hm a[i] (by rw [List.drop_eq_getElem_cons hi]; exact List.mem_cons_self)
    rw [ltB_irr] at this; cases this
  · rcases rising_head hb hj _ hm with he | he
    · exact hne he.symm
    · rw [hl] at he; cases he
theorem WithAt.done {a b : List ByteArray} {i j : Nat} (h : WithAt a b i j) (hi : a.length ≤ i) : ∀ t ∈ a, t ∈ b := by
  have := h.1; rwa [List.take_of_length_le hi] at this
end Go.Proofs.YtfojfohfhomhbaaGreatDoor

namespace Go.Proofs.YtfojfohfhomhbaaGreatDoor

/-- The reference's sorting: rising, none twice. -/
def sortS (l : List ByteArray) : List ByteArray :=
  if _h : l.length < 2 then l else mrg (sortS (l.take (l.length / 2))) (sortS (l.drop (l.length / 2)))
termination_by l.length
decreasing_by all_goals (simp; omega)
theorem sortS_few {l : List ByteArray} (h : l.length < 2) : sortS l = l := by rw [sortS, dif_pos h]
theorem sortS_more {l : List ByteArray} (h : ¬ l.length < 2) : sortS l = mrg (sortS (l.take (l.length / 2))) (sortS (l.drop (l.length / 2))) := by rw [sortS, dif_neg h]
theorem sortS_all : ∀ (n : Nat) (l : List ByteArray), l.length ≤ n → (∀ t, t ∈ sortS l ↔ t ∈ l) ∧ Rising (sortS l) ∧ (sortS l).length ≤ l.length
  | 0, l, h => by
    have : l = [] := List.eq_nil_of_length_eq_zero (by omega)
    subst this
    rw [sortS_few (by simp)]
    exact ⟨fun t => Iff.rfl, List.Pairwise.nil, Nat.le_refl _⟩
  | n + 1, l, h => by
    by_cases h2 : l.length < 2
    · rw [sortS_few h2]
      refine ⟨fun t => Iff.rfl, ?_, Nat.le_refl _⟩
      match l, h2 with
      | [], _ => exact List.Pairwise.nil
      | [x], _ => exact List.pairwise_singleton _ _
    · have ih1 := sortS_all n (l.take (l.length / 2)) (by simp; omega)
      have ih2 := sortS_all n (l.drop (l.length / 2)) (by simp; omega)
      rw [sortS_more h2]
      refine ⟨fun t => ?_, mrg_rising _ _ ih1.2.1 ih2.2.1, ?_⟩
      · rw [mrg_mem, ih1.1, ih2.1, ← List.mem_append, List.take_append_drop]
      · have h3 := mrg_length (sortS (l.take (l.length / 2))) (sortS (l.drop (l.length / 2)))
        have h4 := ih1.2.2
        have h5 := ih2.2.2
        simp only [List.length_take, List.length_drop] at h4 h5
        omega
theorem sortS_mem {l : List ByteArray} {t : ByteArray} : t ∈ sortS l ↔ t ∈ l := (sortS_all _ l (Nat.le_refl _)).1 t
theorem sortS_rising (l : List ByteArray) : Rising (sortS l) := (sortS_all _ l (Nat.le_refl _)).2.1
theorem sortS_length (l : List ByteArray) : (sortS l).length ≤ l.length := (sortS_all _ l (Nat.le_refl _)).2.2

theorem mrg_left {a b : List ByteArray} {k l : Nat} (hk : k < a.length) (hl : l < b.length) (h : ltB a[k] b[l] = true) : mrg (a.drop k) (b.drop l) = a[k] :: mrg (a.drop (k + 1)) (b.drop l) := by
  rw [List.drop_eq_getElem_cons hk, List.drop_eq_getElem_cons hl, mrg, if_pos h]
theorem mrg_right {a b : List ByteArray} {k l : Nat} (hk : k < a.length) (hl : l < b.length) (h0 : ltB a[k] b[l] = false) (h : ltB b[l] a[k] = true) : mrg (a.drop k) (b.drop l) = b[l] :: mrg (a.drop k) (b.drop (l + 1)) := by
  rw [List.drop_eq_getElem_cons hk, List.drop_eq_getElem_cons hl, mrg, if_neg (by rw [h0]; simp), if_pos h]
theorem mrg_both {a b : List ByteArray} {k l : Nat} (hk : k < a.length) (hl : l < b.length) (h0 : ltB a[k] b[l] = false) (h : ltB b[l] a[k] = false) : mrg (a.drop k) (b.drop l) = mrg (a.drop (k + 1)) (b.drop l) := by
  rw [List.drop_eq_getElem_cons hk, List.drop_eq_getElem_cons hl, mrg, if_neg (by rw [h0]; simp), if_neg (by rw [h]; simp)]
theorem mrg_end1 {a b : List ByteArray} {k l : Nat} (hk : k < a.length) (hl : b.length ≤ l) : mrg (a.drop k) (b.drop l) = a[k] :: mrg (a.drop (k + 1)) (b.drop l) := by
  rw [List.drop_of_length_le hl, mrg_nil, mrg_nil, List.drop_eq_getElem_cons hk]
theorem mrg_end2 {a b : List ByteArray} {k l : Nat} (hk : a.length ≤ k) (hl : l < b.length) : mrg (a.drop k) (b.drop l) = b[l] :: mrg (a.drop k) (b.drop (l + 1)) := by
  rw [List.drop_of_length_le hk, mrg, mrg, List.drop_eq_getElem_cons hl]
theorem mrg_end {a b : List ByteArray} {k l : Nat} (hk : a.length ≤ k) (hl : b.length ≤ l) : mrg (a.drop k) (b.drop l) = [] := by
  rw [List.drop_of_length_le hk, List.drop_of_length_le hl, mrg]
end Go.Proofs.YtfojfohfhomhbaaGreatDoor

namespace Go.Proofs.YtfojfohfhomhbaaGreatDoor
open Go.RowKit

/-- A refused text. -/
def ParNo (w : World) (e : Ending) (w' : World) : Prop := ∃ p : Int, e = .returned (.tuple #[.agg #[.string ⟨#[]⟩, .slice none 0 0], .int .i64 40, .int .i64 p]) ∧ Below w.heap.size w w'
/-- A description: its canonical type, its options folded, in the order of O, none twice where O rises. -/
def ParYes (s : ByteArray) (w : World) (e : Ending) (w' : World) : Prop := ∃ (A : Option Addr) (n c : Nat) (O : List ByteArray) (p : Int), e = .returned (.tuple #[.agg #[.string (canonS (headS s)), .slice A n c], .int .i64 0, .int .i64 p]) ∧ n ≤ s.size ∧
  Rd w' w'.heap.size 1 A n (sv O) ∧ (∀ t, t ∈ O ↔ t ∈ optsS s) ∧ Below w.heap.size w w'
def RParYes (s : ByteArray) (w : World) (e : Ending) (w' : World) : Prop := ∃ (A : Option Addr) (n c : Nat) (O : List ByteArray) (p : Int), e = .returned (.tuple #[.agg #[.string (canonS (headS s)), .slice A n c], .int .i64 0, .int .i64 p]) ∧ n ≤ s.size ∧
  Rd w' w'.heap.size 1 A n (sv O) ∧ (∀ t, t ∈ O ↔ t ∈ optsS s) ∧ Rising O ∧ Below w.heap.size w w'

theorem results_cell3 {P : Program} {fn : Func} {p u v : Tmp} {ty : TypeId} (h : fn.results = #[.cell p ty, .tmp u, .tmp v]) (tmps : Array Value) (w : World) (g : Nat) (t : TypeId) (cs : Array Value) (fr : Nat × Nat) (d : TypeDesc)
    (hp : tmps.getD p undef = .pointer (some ⟨g, 0, none⟩)) (hg : w.heap[g]? = some (.cells cs t fr))
    (hu : P.underlying ty = some d) (hd : (match d with | .struct _ | .array _ _ => true | _ => false) = true) (hi : (P.info? ty).map (·.size) = some cs.size) :
    (results fn tmps).run P w = .ok (.tuple #[.agg cs, tmps.getD u undef, tmps.getD v undef]) w := by
  have hp' : tmps[p]?.getD undef = .pointer (some ⟨g, 0, none⟩) := by simpa using hp
  simp [results, h, hp', asAddr, run_loadVar_row w g t ty cs fr d hg hu hd hi]
/-- The block of a result that is a description, while nothing is laid in it. -/
def DescAt (w : World) (g : Nat) (a b : Value) : Prop := w.heap[g]? = some (.cells #[a, b] 75 (0, 0))
theorem DescAt.up {w w' : World} {g : Nat} {a b : Value} (h : DescAt w g a b) (hb : Below w.heap.size w w') : DescAt w' g a b := (hb.block _ (Array.getElem?_eq_some_iff.1 h).1).trans h
theorem DescAt.facts {w : World} {g : Nat} {a b : Value} (h : DescAt w g a b) : w.cell? ⟨g, 0, none⟩ = some a ∧ w.cell? ⟨g, 1, none⟩ = some b ∧ w.frozen? ⟨g, 0, none⟩ = false ∧ w.frozen? ⟨g, 1, none⟩ = false := ⟨blkCell h 0, blkCell h 1, blkFree h 0, blkFree h 1⟩
theorem descEnd {fn : Func} (hres : fn.results = #[.cell 2 75, .tmp 3, .tmp 4]) {tm : Array Value} {w2 : World} {g : Nat} {a b a' b' : Value} {Q : Ending → World → Prop} (hp : tm.getD 2 undef = .pointer (some ⟨g, 0, none⟩)) (h : DescAt w2 g a b)
    (hq : Q (.returned (.tuple #[.agg #[a', b'], tm.getD 3 undef, tm.getD 4 undef])) ((w2.setCell ⟨g, 0, none⟩ a').setCell ⟨g, 1, none⟩ b')) : bodyPost Tryz.prog fn Q .ret ⟨tm, []⟩ ((w2.setCell ⟨g, 0, none⟩ a').setCell ⟨g, 1, none⟩ b') :=
  bodyPost_ret (results_cell3 hres tm _ g _ #[a', b'] (0, 0) _ hp (blkSet (blkSet h 0 _) 1 _) Tryz.underlying75 rfl (by kernel_rfl)) rfl hq
theorem descTyp (a b : Value) (w : World) : (Instr.field 75 (.agg #[a, b]) 0).run Tryz.prog w = .ok a w := by kernel_rfl
theorem descOpt (a b : Value) (w : World) : (Instr.field 75 (.agg #[a, b]) 1).run Tryz.prog w = .ok b w := by kernel_rfl

theorem opts_pieces (s : ByteArray) : optsS s = ((pieces 59 s).drop 1).map foldS := by simp [optsS, pieces]
theorem opts_length (s : ByteArray) : (optsS s).length = (spl 59 (byt s)).2.length := by simp [optsS]
theorem opts_le (s : ByteArray) : (optsS s).length ≤ s.size := by rw [opts_length, ← byt_len]; exact (spl_le 59 (byt s)).1
theorem opts_at {s : ByteArray} {k : Nat} (hk : 1 ≤ k) (h : k < (pieces 59 s).length) : (optsS s).take k = (optsS s).take (k - 1) ++ [foldS ((pieces 59 s)[k])] := by
  have hl : k - 1 < (optsS s).length := by rw [opts_length]; rw [pieces_length] at h; omega
  have h1 := List.take_succ_eq_append_getElem hl
  rw [show k - 1 + 1 = k by omega] at h1
  rw [h1]
  congr 2
  simp only [opts_pieces, List.getElem_map, List.getElem_drop]
  congr 2
  omega
theorem head_piece (s : ByteArray) (h : 0 < (pieces 59 s).length) : (pieces 59 s)[0] = headS s := rfl
theorem head_le (s : ByteArray) : (headS s).size ≤ s.size := by rw [headS, size_bs, ← byt_len]; exact (spl_le 59 (byt s)).2
theorem opt_le {s t : ByteArray} (h : t ∈ optsS s) : t.size ≤ s.size := by
  simp only [opts_pieces, List.mem_map] at h
  obtain ⟨p, hp, rfl⟩ := h
  rw [foldS_size]
  exact pieces_size (List.mem_of_mem_drop hp)
theorem canon_le (t : ByteArray) (n : Nat) (h : t.size ≤ n) (hn : 64 ≤ n) : (canonS t).size ≤ n := by
  unfold canonS
  cases hf : find4 (foldS t) with
  | none => show (foldS t).size ≤ n; rw [foldS_size]; exact h
  | some i => exact Nat.le_trans (row_sz i (find4_lt hf)).1 hn
theorem retI2 {k : IntKind} {a b : Int} (h : a = b) {w0 w1 : World} (hb : Below w0.heap.size w0 w1) : Ending.returned (.int k a) = .returned (.int k b) ∧ Below w0.heap.size w0 w1 := ⟨by rw [h], hb⟩
theorem retB2 {a b : Bool} (h : a = b) {w0 w1 : World} (hb : Below w0.heap.size w0 w1) : Ending.returned (.bool a) = .returned (.bool b) ∧ Below w0.heap.size w0 w1 := ⟨by rw [h], hb⟩
theorem syn_no {s : ByteArray} (h : descB s = false) : synS s = 0 := by rw [synS, if_neg (by rw [h]; simp)]
theorem syn_none {s : ByteArray} (h : descB s = true) (hf : find4 (canonS (headS s)) = none) : synS s = 0 := by rw [synS, if_pos h, hf]
theorem syn_some {s : ByteArray} {i : Nat} (h : descB s = true) (hf : find4 (canonS (headS s)) = some i) : synS s = (row4 i).syn := by rw [synS, if_pos h, hf]
end Go.Proofs.YtfojfohfhomhbaaGreatDoor
