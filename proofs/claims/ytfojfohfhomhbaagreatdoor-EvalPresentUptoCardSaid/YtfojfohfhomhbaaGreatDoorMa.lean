/- Plain specification of attribute descriptions and of the table of attribute types: no Go in sight. Words for memory that all walks of this seat share. Walks: kinds of bytes, keys, numbers, letters folded. Walks: the reference's reading of descriptions. -/
import Derived.Test.YtfojfohfhomhbaaGreatDoorProg
import Derived.WalkKit
import Derived.WalkSpells
import Derived.WalkLawsBesides
import Derived.Maps.AppendAt
import Derived.KernelRfl
import Derived.Lib.Strings
namespace Go.Proofs.YtfojfohfhomhbaaGreatDoor

/-- A text's bytes, and a text of bytes. -/
def byt (s : ByteArray) : List UInt8 := s.data.toList
def bs (l : List UInt8) : ByteArray := ⟨l.toArray⟩
@[simp] theorem byt_bs (l : List UInt8) : byt (bs l) = l := by simp [byt, bs]
@[simp] theorem bs_byt (s : ByteArray) : bs (byt s) = s := by cases s; simp [byt, bs]
theorem byt_inj {s t : ByteArray} (h : byt s = byt t) : s = t := by rw [← bs_byt s, h, bs_byt]
theorem size_byt (s : ByteArray) : s.size = (byt s).length := by cases s; simp [byt, ByteArray.size]
theorem size_bs (l : List UInt8) : (bs l).size = l.length := by rw [size_byt, byt_bs]

/-! ### letters folded -/
def lowC (c : UInt8) : UInt8 := if 65 ≤ c ∧ c ≤ 90 then c + 32 else c
def foldS (s : ByteArray) : ByteArray := bs ((byt s).map lowC)
theorem allU8 (p : UInt8 → Bool) (h : (List.range 256).all (fun n => p (UInt8.ofNat n)) = true) (c : UInt8) : p c = true := by
  have := List.all_eq_true.1 h c.toNat (List.mem_range.2 c.toNat_lt)
  simpa using this
theorem lowC_idem (c : UInt8) : lowC (lowC c) = lowC c := by
  have := allU8 (fun c => lowC (lowC c) == lowC c) (by decide +kernel) c
  simpa using this
theorem foldS_idem (s : ByteArray) : foldS (foldS s) = foldS s := by
  unfold foldS; rw [byt_bs, List.map_map]; congr 1; apply List.map_congr_left; intro c _; exact lowC_idem c
theorem foldS_size (s : ByteArray) : (foldS s).size = s.size := by rw [foldS, size_bs, List.length_map, ← size_byt]

/-! ### a text taken apart at a byte -/
def spl (c : UInt8) : List UInt8 → List UInt8 × List (List UInt8)
  | [] => ([], [])
  | x :: xs => if x = c then ([], (spl c xs).1 :: (spl c xs).2) else (x :: (spl c xs).1, (spl c xs).2)
def spF (c : UInt8) (st : List (List UInt8) × List UInt8) (x : UInt8) : List (List UInt8) × List UInt8 := if x = c then (st.1 ++ [st.2], []) else (st.1, st.2 ++ [x])
theorem foldl_spF (c : UInt8) : ∀ (l : List UInt8) (d : List (List UInt8)) (u : List UInt8),
    (l.foldl (spF c) (d, u)).1 ++ [(l.foldl (spF c) (d, u)).2] = d ++ (u ++ (spl c l).1) :: (spl c l).2
  | [], d, u => by simp [spl]
  | x :: l, d, u => by
    by_cases h : x = c
    · simp only [List.foldl_cons, spF, h, if_true]
      rw [foldl_spF c l]; simp [spl]
    · simp only [List.foldl_cons, spF, h, if_false]
      rw [foldl_spF c l]; simp [spl, h]

/-! ### descriptions, by the machine that reads them byte by byte -/
def letterC (c : UInt8) : Bool := (decide (97 ≤ c) && decide (c ≤ 122)) || (decide (65 ≤ c) && decide (c ≤ 90))
def digitC (c : UInt8) : Bool := decide (48 ≤ c) && decide (c ≤ 57)
def keyC (c : UInt8) : Bool := letterC c || digitC c || c == 45
def wholeS (st : Nat × Nat) : Bool := if st.1 = 1 ∨ st.1 = 6 then true else if st.1 = 2 ∨ st.1 = 3 then decide (0 < st.2) else false
def nxt (st : Nat × Nat) (c : UInt8) : Option (Nat × Nat) :=
  if c = 59 then (if wholeS st = true then some (5, st.2) else none)
  else if (st.1 = 0 ∧ letterC c = true) ∨ (st.1 = 1 ∧ keyC c = true) then some (1, st.2)
  else if (st.1 = 5 ∨ st.1 = 6) ∧ keyC c = true then some (6, st.2)
  else if (st.1 = 0 ∨ st.1 = 4) ∧ digitC c = true then some (if c = 48 then 2 else 3, st.2)
  else if st.1 = 3 ∧ digitC c = true then some (3, st.2)
  else if (st.1 = 2 ∨ st.1 = 3) ∧ c = 46 then some (4, st.2 + 1)
  else none
def runS : Nat × Nat → List UInt8 → Option (Nat × Nat)
  | st, [] => some st
  | st, c :: l => match nxt st c with
    | none => none
    | some st' => runS st' l
def acc (st : Nat × Nat) (l : List UInt8) : Bool := match runS st l with
  | none => false
  | some st' => wholeS st'
def descB (s : ByteArray) : Bool := acc (0, 0) (byt s)
def typeB (s : ByteArray) : Bool := !(byt s).contains 59 && descB s

theorem acc_nil (st : Nat × Nat) : acc st [] = wholeS st := rfl
theorem acc_cons (st : Nat × Nat) (c : UInt8) (l : List UInt8) : acc st (c :: l) = match nxt st c with
    | none => false
    | some st' => acc st' l := by
  unfold acc; rw [runS]; cases nxt st c <;> rfl
theorem runS_snoc (c : UInt8) : ∀ (l : List UInt8) (st : Nat × Nat), runS st (l ++ [c]) = (runS st l).bind fun st' => nxt st' c
  | [], st => by simp only [List.nil_append, runS, Option.bind]; cases nxt st c <;> rfl
  | x :: l, st => by
    simp only [List.cons_append, runS]
    cases nxt st x with
    | none => rfl
    | some st' => exact runS_snoc c l st'

/-! ### descriptions, by what stands between semicolons and points -/
def keysB (l : List UInt8) : Bool := !l.isEmpty && l.all keyC
def numB (l : List UInt8) : Bool := l.all digitC && (l == [48] || (!l.isEmpty && !(l.head? == some 48)))
def isTypeL (l : List UInt8) : Bool := match l with
  | [] => false
  | c :: _ => if letterC c = true then keysB l else ((spl 46 l).1 :: (spl 46 l).2).all numB && decide (1 < ((spl 46 l).1 :: (spl 46 l).2).length)
def isDescL (l : List UInt8) : Bool := (spl 59 l).2.all keysB && isTypeL (spl 59 l).1

theorem c59 : letterC 59 = false ∧ digitC 59 = false ∧ keyC 59 = false := by decide
theorem c46 : letterC 46 = false ∧ digitC 46 = false ∧ keyC 46 = false := by decide
theorem digit_not (c : UInt8) (h : digitC c = true) : letterC c = false ∧ c ≠ 59 ∧ c ≠ 46 := by
  have := allU8 (fun c => !digitC c || (!letterC c && c != 59 && c != 46)) (by decide +kernel) c
  simp only [h] at this
  simpa [and_assoc] using this
theorem letter_not (c : UInt8) (h : letterC c = true) : digitC c = false ∧ c ≠ 59 ∧ c ≠ 46 ∧ keyC c = true := by
  have := allU8 (fun c => !letterC c || (!digitC c && c != 59 && c != 46 && keyC c)) (by decide +kernel) c
  simp only [h] at this
  simpa [and_assoc] using this
theorem key_not (c : UInt8) (h : keyC c = true) : c ≠ 59 ∧ c ≠ 46 := by
  have := allU8 (fun c => !keyC c || (c != 59 && c != 46)) (by decide +kernel) c
  simp only [h] at this
  simpa [and_assoc] using this

theorem acc_opt : ∀ (l : List UInt8) (p : Nat), acc (6, p) l = ((spl 59 l).1.all keyC && (spl 59 l).2.all keysB) ∧ acc (5, p) l = (keysB (spl 59 l).1 && (spl 59 l).2.all keysB)
  | [], p => by simp [acc_nil, wholeS, spl, keysB]
  | c :: l, p => by
    have ih := acc_opt l p
    rw [acc_cons, acc_cons]
    by_cases h : c = 59
    · subst h; simp [nxt, wholeS, spl, keysB, ih.2]
    · by_cases hk : keyC c = true
      · simp [nxt, h, hk, spl, ih.1, keysB]
      · have hk : keyC c = false := by simpa using hk
        simp [nxt, h, hk, spl, keysB]
theorem acc_word : ∀ (l : List UInt8) (p : Nat), acc (1, p) l = ((spl 59 l).1.all keyC && (spl 59 l).2.all keysB)
  | [], p => by simp [acc_nil, wholeS, spl]
  | c :: l, p => by
    have ih := acc_word l p
    rw [acc_cons]
    by_cases h : c = 59
    · subst h; simp [nxt, wholeS, spl, (acc_opt l p).2]
    · by_cases hk : keyC c = true
      · simp [nxt, h, hk, spl, ih]
      · have hk : keyC c = false := by simpa using hk
        simp [nxt, h, hk, spl]
theorem acc_num : ∀ (l : List UInt8) (p : Nat),
    acc (3, p) l = ((spl 46 (spl 59 l).1).1.all digitC && (spl 46 (spl 59 l).1).2.all numB && (decide (0 < p) || !(spl 46 (spl 59 l).1).2.isEmpty) && (spl 59 l).2.all keysB) ∧
    acc (2, p) l = ((spl 46 (spl 59 l).1).1.isEmpty && (spl 46 (spl 59 l).1).2.all numB && (decide (0 < p) || !(spl 46 (spl 59 l).1).2.isEmpty) && (spl 59 l).2.all keysB) ∧
    (0 < p → acc (4, p) l = (numB (spl 46 (spl 59 l).1).1 && (spl 46 (spl 59 l).1).2.all numB && (spl 59 l).2.all keysB))
  | [], p => by simp [acc_nil, wholeS, spl, numB]
  | c :: l, p => by
    rw [acc_cons, acc_cons, acc_cons]
    by_cases h : c = 59
    · subst h
      have := (acc_opt l p).2
      by_cases hp : 0 < p <;> simp [nxt, wholeS, spl, numB, this, hp]
    · by_cases h46 : c = 46
      · subst h46
        have ih := (acc_num l (p + 1)).2.2 (by omega)
        simp [nxt, c46, spl, ih, numB]
      · by_cases hd : digitC c = true
        · have ih := acc_num l p
          refine ⟨?_, ?_, fun hp => ?_⟩
          · simp [nxt, h, hd, spl, h46, ih.1, (digit_not c hd).1]
          · simp [nxt, h, hd, spl, h46]
          · by_cases h48 : c = 48
            · subst h48
              simp [nxt, h, hd, spl, h46, ih.2.1, numB, hp]
              cases (spl 46 (spl 59 l).1).1 <;> simp
            · have hb : (c == 48) = false := by simpa using h48
              simp [nxt, h, hd, spl, h46, ih.1, numB, hp, h48, hb]
        · have hd : digitC c = false := by simpa using hd
          simp [nxt, h, hd, spl, h46, numB]
theorem acc_begin (l : List UInt8) : acc (0, 0) l = isDescL l := by
  cases l with
  | nil => simp [acc_nil, wholeS, isDescL, isTypeL, spl]
  | cons c l =>
    rw [acc_cons]
    unfold isDescL
    by_cases h : c = 59
    · subst h; simp [nxt, wholeS, spl, isTypeL]
    · by_cases hl : letterC c = true
      · obtain ⟨_, _, _, hk⟩ := letter_not c hl
        simp [nxt, h, hl, spl, isTypeL, keysB, hk, acc_word, Bool.and_comm]
      · have hl : letterC c = false := by simpa using hl
        by_cases hd : digitC c = true
        · obtain ⟨_, _, h46⟩ := digit_not c hd
          have ih := acc_num l 0
          by_cases h48 : c = 48
          · subst h48
            simp [nxt, h, hl, hd, spl, isTypeL, h46, ih.2.1, numB]
            cases (spl 46 (spl 59 l).1).1 <;> cases (spl 46 (spl 59 l).1).2 <;> simp [Bool.and_comm]
          · have hb : (c == 48) = false := by simpa using h48
            simp [nxt, h, hl, hd, spl, isTypeL, h46, ih.1, numB, h48, hb]
            cases (spl 46 (spl 59 l).1).2 <;> simp [Bool.and_comm, Bool.and_assoc, Bool.and_left_comm]
        · have hd : digitC c = false := by simpa using hd
          by_cases h46 : c = 46
          · subst h46; simp [nxt, hl, hd, spl, isTypeL, numB]
          · simp [nxt, h, hl, hd, spl, isTypeL, h46, numB]
theorem descB_split (s : ByteArray) : descB s = isDescL (byt s) := acc_begin _

/-! ### the table -/
structure Row4 where
  nm : ByteArray
  al : ByteArray
  oid : ByteArray
  sup : Int
  syn : Int
  op : Int
def tab4 : List Row4 := [
  ⟨bs [111, 98, 106, 101, 99, 116, 99, 108, 97, 115, 115], bs [], bs [50, 46, 53, 46, 52, 46, 48], (-1), 11, 0⟩,
  ⟨bs [97, 108, 105, 97, 115, 101, 100, 111, 98, 106, 101, 99, 116, 110, 97, 109, 101], bs [97, 108, 105, 97, 115, 101, 100, 101, 110, 116, 114, 121, 110, 97, 109, 101], bs [50, 46, 53, 46, 52, 46, 49], (-1), 10, 0⟩,
  ⟨bs [110, 97, 109, 101], bs [], bs [50, 46, 53, 46, 52, 46, 52, 49], (-1), 1, 0⟩,
  ⟨bs [100, 105, 115, 116, 105, 110, 103, 117, 105, 115, 104, 101, 100, 110, 97, 109, 101], bs [], bs [50, 46, 53, 46, 52, 46, 52, 57], (-1), 10, 0⟩,
  ⟨bs [99, 110], bs [99, 111, 109, 109, 111, 110, 110, 97, 109, 101], bs [50, 46, 53, 46, 52, 46, 51], (2), 1, 0⟩,
  ⟨bs [115, 110], bs [115, 117, 114, 110, 97, 109, 101], bs [50, 46, 53, 46, 52, 46, 52], (2), 1, 0⟩,
  ⟨bs [115, 101, 114, 105, 97, 108, 110, 117, 109, 98, 101, 114], bs [], bs [50, 46, 53, 46, 52, 46, 53], (-1), 1, 0⟩,
  ⟨bs [99], bs [99, 111, 117, 110, 116, 114, 121, 110, 97, 109, 101], bs [50, 46, 53, 46, 52, 46, 54], (2), 1, 0⟩,
  ⟨bs [108], bs [108, 111, 99, 97, 108, 105, 116, 121, 110, 97, 109, 101], bs [50, 46, 53, 46, 52, 46, 55], (2), 1, 0⟩,
  ⟨bs [115, 116], bs [115, 116, 97, 116, 101, 111, 114, 112, 114, 111, 118, 105, 110, 99, 101, 110, 97, 109, 101], bs [50, 46, 53, 46, 52, 46, 56], (2), 1, 0⟩,
  ⟨bs [115, 116, 114, 101, 101, 116], bs [115, 116, 114, 101, 101, 116, 97, 100, 100, 114, 101, 115, 115], bs [50, 46, 53, 46, 52, 46, 57], (-1), 1, 0⟩,
  ⟨bs [111], bs [111, 114, 103, 97, 110, 105, 122, 97, 116, 105, 111, 110, 110, 97, 109, 101], bs [50, 46, 53, 46, 52, 46, 49, 48], (2), 1, 0⟩,
  ⟨bs [111, 117], bs [111, 114, 103, 97, 110, 105, 122, 97, 116, 105, 111, 110, 97, 108, 117, 110, 105, 116, 110, 97, 109, 101], bs [50, 46, 53, 46, 52, 46, 49, 49], (2), 1, 0⟩,
  ⟨bs [116, 105, 116, 108, 101], bs [], bs [50, 46, 53, 46, 52, 46, 49, 50], (2), 1, 0⟩,
  ⟨bs [100, 101, 115, 99, 114, 105, 112, 116, 105, 111, 110], bs [], bs [50, 46, 53, 46, 52, 46, 49, 51], (-1), 1, 0⟩,
  ⟨bs [98, 117, 115, 105, 110, 101, 115, 115, 99, 97, 116, 101, 103, 111, 114, 121], bs [], bs [50, 46, 53, 46, 52, 46, 49, 53], (-1), 1, 0⟩,
  ⟨bs [112, 111, 115, 116, 97, 108, 97, 100, 100, 114, 101, 115, 115], bs [], bs [50, 46, 53, 46, 52, 46, 49, 54], (-1), 13, 0⟩,
  ⟨bs [112, 111, 115, 116, 97, 108, 99, 111, 100, 101], bs [], bs [50, 46, 53, 46, 52, 46, 49, 55], (-1), 1, 0⟩,
  ⟨bs [112, 111, 115, 116, 111, 102, 102, 105, 99, 101, 98, 111, 120], bs [], bs [50, 46, 53, 46, 52, 46, 49, 56], (-1), 1, 0⟩,
  ⟨bs [112, 104, 121, 115, 105, 99, 97, 108, 100, 101, 108, 105, 118, 101, 114, 121, 111, 102, 102, 105, 99, 101, 110, 97, 109, 101], bs [], bs [50, 46, 53, 46, 52, 46, 49, 57], (-1), 1, 0⟩,
  ⟨bs [116, 101, 108, 101, 112, 104, 111, 110, 101, 110, 117, 109, 98, 101, 114], bs [], bs [50, 46, 53, 46, 52, 46, 50, 48], (-1), 6, 0⟩,
  ⟨bs [102, 97, 99, 115, 105, 109, 105, 108, 101, 116, 101, 108, 101, 112, 104, 111, 110, 101, 110, 117, 109, 98, 101, 114], bs [102, 97, 120], bs [50, 46, 53, 46, 52, 46, 50, 51], (-1), 6, 0⟩,
  ⟨bs [120, 49, 50, 49, 97, 100, 100, 114, 101, 115, 115], bs [], bs [50, 46, 53, 46, 52, 46, 50, 52], (-1), 5, 0⟩,
  ⟨bs [105, 110, 116, 101, 114, 110, 97, 116, 105, 111, 110, 97, 108, 105, 115, 100, 110, 110, 117, 109, 98, 101, 114], bs [], bs [50, 46, 53, 46, 52, 46, 50, 53], (-1), 5, 0⟩,
  ⟨bs [114, 101, 103, 105, 115, 116, 101, 114, 101, 100, 97, 100, 100, 114, 101, 115, 115], bs [], bs [50, 46, 53, 46, 52, 46, 50, 54], (16), 13, 0⟩,
  ⟨bs [100, 101, 115, 116, 105, 110, 97, 116, 105, 111, 110, 105, 110, 100, 105, 99, 97, 116, 111, 114], bs [], bs [50, 46, 53, 46, 52, 46, 50, 55], (-1), 1, 0⟩,
  ⟨bs [109, 101, 109, 98, 101, 114], bs [], bs [50, 46, 53, 46, 52, 46, 51, 49], (3), 10, 0⟩,
  ⟨bs [111, 119, 110, 101, 114], bs [], bs [50, 46, 53, 46, 52, 46, 51, 50], (3), 10, 0⟩,
  ⟨bs [114, 111, 108, 101, 111, 99, 99, 117, 112, 97, 110, 116], bs [], bs [50, 46, 53, 46, 52, 46, 51, 51], (3), 10, 0⟩,
  ⟨bs [115, 101, 101, 97, 108, 115, 111], bs [], bs [50, 46, 53, 46, 52, 46, 51, 52], (3), 10, 0⟩,
  ⟨bs [117, 115, 101, 114, 112, 97, 115, 115, 119, 111, 114, 100], bs [], bs [50, 46, 53, 46, 52, 46, 51, 53], (-1), 9, 0⟩,
  ⟨bs [103, 105, 118, 101, 110, 110, 97, 109, 101], bs [103, 110], bs [50, 46, 53, 46, 52, 46, 52, 50], (2), 1, 0⟩,
  ⟨bs [105, 110, 105, 116, 105, 97, 108, 115], bs [], bs [50, 46, 53, 46, 52, 46, 52, 51], (2), 1, 0⟩,
  ⟨bs [103, 101, 110, 101, 114, 97, 116, 105, 111, 110, 113, 117, 97, 108, 105, 102, 105, 101, 114], bs [], bs [50, 46, 53, 46, 52, 46, 52, 52], (2), 1, 0⟩,
  ⟨bs [100, 110, 113, 117, 97, 108, 105, 102, 105, 101, 114], bs [], bs [50, 46, 53, 46, 52, 46, 52, 54], (-1), 1, 0⟩,
  ⟨bs [104, 111, 117, 115, 101, 105, 100, 101, 110, 116, 105, 102, 105, 101, 114], bs [], bs [50, 46, 53, 46, 52, 46, 53, 49], (-1), 1, 0⟩,
  ⟨bs [99, 45, 108], bs [], bs [50, 46, 53, 46, 52, 46, 55, 46, 49], (8), 1, 0⟩,
  ⟨bs [99, 45, 115, 116], bs [], bs [50, 46, 53, 46, 52, 46, 56, 46, 49], (9), 1, 0⟩,
  ⟨bs [99, 45, 111], bs [], bs [50, 46, 53, 46, 52, 46, 49, 48, 46, 49], (11), 1, 0⟩,
  ⟨bs [99, 45, 111, 117], bs [], bs [50, 46, 53, 46, 52, 46, 49, 49, 46, 49], (12), 1, 0⟩,
  ⟨bs [117, 105, 100], bs [117, 115, 101, 114, 105, 100], bs [48, 46, 57, 46, 50, 51, 52, 50, 46, 49, 57, 50, 48, 48, 51, 48, 48, 46, 49, 48, 48, 46, 49, 46, 49], (-1), 1, 0⟩,
  ⟨bs [109, 97, 105, 108], bs [114, 102, 99, 56, 50, 50, 109, 97, 105, 108, 98, 111, 120], bs [48, 46, 57, 46, 50, 51, 52, 50, 46, 49, 57, 50, 48, 48, 51, 48, 48, 46, 49, 48, 48, 46, 49, 46, 51], (-1), 3, 0⟩,
  ⟨bs [114, 111, 111, 109, 110, 117, 109, 98, 101, 114], bs [], bs [48, 46, 57, 46, 50, 51, 52, 50, 46, 49, 57, 50, 48, 48, 51, 48, 48, 46, 49, 48, 48, 46, 49, 46, 54], (-1), 1, 0⟩,
  ⟨bs [109, 97, 110, 97, 103, 101, 114], bs [], bs [48, 46, 57, 46, 50, 51, 52, 50, 46, 49, 57, 50, 48, 48, 51, 48, 48, 46, 49, 48, 48, 46, 49, 46, 49, 48], (-1), 10, 0⟩,
  ⟨bs [104, 111, 109, 101, 112, 104, 111, 110, 101], bs [104, 111, 109, 101, 116, 101, 108, 101, 112, 104, 111, 110, 101, 110, 117, 109, 98, 101, 114], bs [48, 46, 57, 46, 50, 51, 52, 50, 46, 49, 57, 50, 48, 48, 51, 48, 48, 46, 49, 48, 48, 46, 49, 46, 50, 48], (-1), 6, 0⟩,
  ⟨bs [115, 101, 99, 114, 101, 116, 97, 114, 121], bs [], bs [48, 46, 57, 46, 50, 51, 52, 50, 46, 49, 57, 50, 48, 48, 51, 48, 48, 46, 49, 48, 48, 46, 49, 46, 50, 49], (-1), 10, 0⟩,
  ⟨bs [100, 99], bs [100, 111, 109, 97, 105, 110, 99, 111, 109, 112, 111, 110, 101, 110, 116], bs [48, 46, 57, 46, 50, 51, 52, 50, 46, 49, 57, 50, 48, 48, 51, 48, 48, 46, 49, 48, 48, 46, 49, 46, 50, 53], (-1), 3, 0⟩,
  ⟨bs [109, 111, 98, 105, 108, 101], bs [109, 111, 98, 105, 108, 101, 116, 101, 108, 101, 112, 104, 111, 110, 101, 110, 117, 109, 98, 101, 114], bs [48, 46, 57, 46, 50, 51, 52, 50, 46, 49, 57, 50, 48, 48, 51, 48, 48, 46, 49, 48, 48, 46, 49, 46, 52, 49], (-1), 6, 0⟩,
  ⟨bs [112, 97, 103, 101, 114], bs [112, 97, 103, 101, 114, 116, 101, 108, 101, 112, 104, 111, 110, 101, 110, 117, 109, 98, 101, 114], bs [48, 46, 57, 46, 50, 51, 52, 50, 46, 49, 57, 50, 48, 48, 51, 48, 48, 46, 49, 48, 48, 46, 49, 46, 52, 50], (-1), 6, 0⟩,
  ⟨bs [101, 109, 112, 108, 111, 121, 101, 101, 110, 117, 109, 98, 101, 114], bs [], bs [50, 46, 49, 54, 46, 56, 52, 48, 46, 49, 46, 49, 49, 51, 55, 51, 48, 46, 51, 46, 49, 46, 51], (-1), 1, 0⟩,
  ⟨bs [100, 105, 115, 112, 108, 97, 121, 110, 97, 109, 101], bs [], bs [50, 46, 49, 54, 46, 56, 52, 48, 46, 49, 46, 49, 49, 51, 55, 51, 48, 46, 51, 46, 49, 46, 50, 52, 49], (-1), 1, 0⟩,
  ⟨bs [117, 105, 100, 110, 117, 109, 98, 101, 114], bs [], bs [49, 46, 51, 46, 54, 46, 49, 46, 49, 46, 49, 46, 49, 46, 48], (-1), 7, 0⟩,
  ⟨bs [103, 105, 100, 110, 117, 109, 98, 101, 114], bs [], bs [49, 46, 51, 46, 54, 46, 49, 46, 49, 46, 49, 46, 49, 46, 49], (-1), 7, 0⟩,
  ⟨bs [104, 111, 109, 101, 100, 105, 114, 101, 99, 116, 111, 114, 121], bs [], bs [49, 46, 51, 46, 54, 46, 49, 46, 49, 46, 49, 46, 49, 46, 51], (-1), 4, 0⟩,
  ⟨bs [108, 111, 103, 105, 110, 115, 104, 101, 108, 108], bs [], bs [49, 46, 51, 46, 54, 46, 49, 46, 49, 46, 49, 46, 49, 46, 52], (-1), 4, 0⟩,
  ⟨bs [108, 97, 98, 101, 108, 101, 100, 117, 114, 105], bs [], bs [49, 46, 51, 46, 54, 46, 49, 46, 52, 46, 49, 46, 50, 53, 48, 46, 49, 46, 53, 55], (-1), 2, 0⟩,
  ⟨bs [99, 114, 101, 97, 116, 101, 116, 105, 109, 101, 115, 116, 97, 109, 112], bs [], bs [50, 46, 53, 46, 49, 56, 46, 49], (-1), 12, 1⟩,
  ⟨bs [109, 111, 100, 105, 102, 121, 116, 105, 109, 101, 115, 116, 97, 109, 112], bs [], bs [50, 46, 53, 46, 49, 56, 46, 50], (-1), 12, 1⟩,
  ⟨bs [99, 114, 101, 97, 116, 111, 114, 115, 110, 97, 109, 101], bs [], bs [50, 46, 53, 46, 49, 56, 46, 51], (-1), 10, 1⟩,
  ⟨bs [109, 111, 100, 105, 102, 105, 101, 114, 115, 110, 97, 109, 101], bs [], bs [50, 46, 53, 46, 49, 56, 46, 52], (-1), 10, 1⟩,
  ⟨bs [104, 97, 115, 115, 117, 98, 111, 114, 100, 105, 110, 97, 116, 101, 115], bs [], bs [50, 46, 53, 46, 49, 56, 46, 57], (-1), 8, 1⟩,
  ⟨bs [120, 53, 48, 48, 117, 110, 105, 113, 117, 101, 105, 100, 101, 110, 116, 105, 102, 105, 101, 114], bs [], bs [50, 46, 53, 46, 52, 46, 52, 53], (-1), 14, 0⟩]
def row4 (i : Nat) : Row4 := tab4.getD i ⟨bs [], bs [], bs [], -1, 0, 0⟩
/-- The row that a folded text names. -/
def names4 (i : Nat) (t : ByteArray) : Bool := byt t == byt (row4 i).nm || (byt t == byt (row4 i).al && !(byt t).isEmpty) || byt t == byt (row4 i).oid
def find4 (t : ByteArray) : Option Nat := (List.range 62).find? fun i => names4 i t
def canonS (t : ByteArray) : ByteArray := match find4 (foldS t) with
  | some i => (row4 i).nm
  | none => foldS t
/-- The chain of super types' names, from row i on (no chain is longer than three). -/
def chain4 : Nat → Nat → List ByteArray
  | 0, _ => []
  | k + 1, i => (row4 i).nm :: (if (row4 i).sup < 0 then [] else chain4 k (row4 i).sup.toNat)
def supersS (t : ByteArray) : List ByteArray := match find4 (foldS t) with
  | some i => chain4 3 i
  | none => [foldS t]
def headS (s : ByteArray) : ByteArray := bs (spl 59 (byt s)).1
def optsS (s : ByteArray) : List ByteArray := (spl 59 (byt s)).2.map fun o => foldS (bs o)
def synS (s : ByteArray) : Int := if descB s = true then (match find4 (canonS (headS s)) with
  | some i => (row4 i).syn
  | none => 0) else 0
def coversS (d e : ByteArray) : Bool := descB d && descB e && (supersS (canonS (headS e))).contains (canonS (headS d)) && (optsS d).all fun o => (optsS e).contains o

end Go.Proofs.YtfojfohfhomhbaaGreatDoor

namespace Go.Proofs.YtfojfohfhomhbaaGreatDoor
open Go.RowKit

theorem hid {p : Prop} (h : p) : Hid p := h
theorem addAdd (a : Addr) (i j : Nat) : (a.add i).add j = a.add (i + j) := by
  by_cases hi : i = 0 <;> by_cases hj : j = 0 <;> simp [Addr.add, hi, hj, Nat.add_assoc]
theorem addBlock (a : Addr) (i : Nat) : (a.add i).block = a.block := by
  by_cases hi : i = 0 <;> simp [Addr.add, hi]

/-- The slice at A with n elements of sz cells each holds the cells xs; all of it below block K. -/
def Rd (w : World) (K sz : Nat) (A : Option Addr) (n : Nat) (xs : List Value) : Prop :=
  xs.length = n * sz ∧ (0 < n → ∃ ad, A = some ad ∧ ad.block < K ∧ ∀ j u, xs[j]? = some u → w.cell? (ad.add j) = some u)
theorem Rd.keep {w w' : World} {K sz n : Nat} {A : Option Addr} {xs : List Value} (h : Rd w K sz A n xs) (hk : ∀ p : Addr, p.block < K → w'.cell? p = w.cell? p) : Rd w' K sz A n xs := by
  refine ⟨h.1, fun hn => ?_⟩
  obtain ⟨ad, e, hb, hc⟩ := h.2 hn
  exact ⟨ad, e, hb, fun j u hu => by rw [hk _ (by rw [addBlock]; exact hb)]; exact hc j u hu⟩
theorem Rd.below {w w' : World} {K sz n : Nat} {A : Option Addr} {xs : List Value} (h : Rd w K sz A n xs) (hb : Below K w w') : Rd w' K sz A n xs := h.keep fun _ hp => hb.cell hp
theorem Rd.more {w : World} {K K' sz n : Nat} {A : Option Addr} {xs : List Value} (h : Rd w K sz A n xs) (hK : K ≤ K') : Rd w K' sz A n xs := by
  refine ⟨h.1, fun hn => ?_⟩
  obtain ⟨ad, e, hb, hc⟩ := h.2 hn
  exact ⟨ad, e, by omega, hc⟩
theorem Rd.up {w w' : World} {sz n : Nat} {A : Option Addr} {xs : List Value} (h : Rd w w.heap.size sz A n xs) (hb : Below w.heap.size w w') : Rd w' w'.heap.size sz A n xs := (h.below hb).more hb.size
theorem Rd.at1 {w : World} {K k n : Nat} {A : Option Addr} {xs : List Value} (h : Rd w K 1 A n xs) (hk : k < n) : ∃ ad, A = some ad ∧ ad.block < K ∧ ∃ hl : k < xs.length, w.cell? (ad.add k) = some xs[k] := by
  obtain ⟨ad, e, hb, hc⟩ := h.2 (by omega)
  have hl : k < xs.length := by have := h.1; omega
  exact ⟨ad, e, hb, hl, hc k _ (List.getElem?_eq_getElem hl)⟩
theorem Rd.ofOwn {w : World} {base e sz n c : Nat} {A : Option Addr} {xs : List Value} (h : w.ownsRow base e sz (.slice A n c) n xs) : Rd w w.heap.size sz A n xs := by
  refine ⟨h.1, fun hn => ?_⟩
  rcases h.2 with ⟨_, h0⟩ | ⟨g, cap, cur, hv, _, hg, _⟩
  · omega
  · have hA : A = some ⟨g, 0, none⟩ := by injection hv
    subst hA
    exact ⟨_, rfl, (Array.getElem?_eq_some_iff.1 hg).1, h.cells (g := g) rfl⟩
/-- Every value that owns a row is a slice of that length. -/
theorem ownForm {w : World} {base e sz n : Nat} {v : Value} {xs : List Value} (h : w.ownsRow base e sz v n xs) : ∃ A c, v = .slice A n c ∧ n ≤ c := by
  rcases h.2 with ⟨rfl, rfl⟩ | ⟨g, cap, cur, rfl, _, _, hc, _⟩
  · exact ⟨_, _, rfl, Nat.le_refl _⟩
  · exact ⟨_, _, rfl, hc⟩
theorem belowN {K : Nat} {a w : World} (h : Below K a w) (n : Nat) : Below K a (w.drewN n) := ⟨h.os, h.tape, h.output, h.size, h.block⟩
/-- One step more, the later one speaking of all that lay then. -/
theorem belowNext {w w1 w2 : World} (h : Below w.heap.size w w1) (k : Below w1.heap.size w1 w2) : Below w.heap.size w w2 := h.trans (k.mono h.size)
theorem belowGrow {w w1 w2 : World} (h : Below w.heap.size w w1) {row : Option Nat} (hg : w1.grownBy w2 row) (hr : ∀ k, row = some k → w.heap.size ≤ k) : Below w.heap.size w w2 := h.grown hg h.size hr
theorem ownLe {w1 : World} {base e sz n : Nat} {v : Value} {xs : List Value} (h : w1.ownsRow base e sz v n xs) : ∀ k, v.ownBlock = some k → base ≤ k := fun k hk => (h.lt k hk).1

/-- 'append(out, x)' of one element of one cell, out the call's own. -/
theorem wpApp1 {P : Program} (w : World) {ops : Array Oper} {rest : List Oper} {o : Oper} {a : Act} {Q : Exit → Act → World → Prop} (hgd : o.guard = none) (s x : Operand) (t : TypeId)
    (ho : o.op = .call { callee := .builtin .append, args := #[s, x], argTypes := #[t, t] })
    (base : Nat) (e : TypeId) (z : Value) (bytes : Nat) (ht : P.underlying t = some (.slice e)) (hi : (P.info? e).map (fun i => (i.zero, i.size, i.bytes)) = some (some z, 1, bytes)) (hzs : z.cells.size = 1)
    (v : Value) (n : Nat) (xs : List Value) (hs : a.eval s = v) (hown : w.ownsRow base e 1 v n xs)
    (ad : Addr) (c : Nat) (u : Value) (hx : a.eval x = .slice (some ad) 1 c) (hu : w.cell? ad = some u) (h1 : u.oneCell' = true)
    (hn : (n + 1) * bytes ≤ 140737488355328) (h63 : n + 1 ≤ 9223372036854775807) (hbase : base ≤ w.heap.size)
    (h : ∀ v' w', w'.ownsRow base e 1 v' (n + 1) (xs ++ [u]) → w.grownBy w' v.ownBlock → (v'.ownBlock = v.ownBlock ∨ v'.ownBlock = some w.heap.size) → wpList P ops Q rest (a.put o.dst v') w') : wpList P ops Q (o :: rest) a w := by
  obtain ⟨i, hi1, hz0, hz1, hz2⟩ := info_parts hi
  refine wpList_append_own_at w hgd s x t ho base e i z 1 bytes ht hi1 hz0 hz1 hz2 hzs (by decide) v n xs hs hown ad 1 c [u] hx rfl ?_ ?_ (by unfold maxLen; omega) hn hbase fun v' w' h1 h2 _ h3 => h v' w' h1 h2 h3
  · intro j u' hj
    match j, hj with
    | 0, hj => simp at hj; subst hj; simpa [Addr.add] using hu
  · intro u' hu'; simp at hu'; subst hu'; exact h1

/-- The same, the element laid in a new block just ahead; W0: the world at the call's begin. -/
theorem app1 {P : Program} {W0 wr : World} {e' : TypeId} {u : Value} {ops : Array Oper} {rest : List Oper} {o : Oper} {a : Act} {Q : Exit → Act → World → Prop} (hgd : o.guard = none) (s x : Operand) (t : TypeId)
    (ho : o.op = .call { callee := .builtin .append, args := #[s, x], argTypes := #[t, t] })
    (e : TypeId) (z : Value) (bytes : Nat) (ht : P.underlying t = some (.slice e)) (hi : (P.info? e).map (fun i => (i.zero, i.size, i.bytes)) = some (some z, 1, bytes)) (hzs : z.cells.size = 1)
    (v : Value) (n : Nat) (xs : List Value) (hs : a.eval s = v) (hown : wr.ownsRow W0.heap.size e 1 v n xs)
    (hx : a.eval x = .slice (some ⟨wr.heap.size, 0, none⟩) 1 1) (h1 : u.oneCell' = true) (hb : Below W0.heap.size W0 wr)
    (hn : (n + 1) * bytes ≤ 140737488355328) (h63 : n + 1 ≤ 9223372036854775807)
    (h : ∀ v' w', w'.ownsRow W0.heap.size e 1 v' (n + 1) (xs ++ [u]) → Below W0.heap.size W0 w' → wpList P ops Q rest (a.put o.dst v') w') :
    wpList P ops Q (o :: rest) a (wr.alloc (.cells #[u] e')) := by
  have hsz := hb.size
  refine wpApp1 _ hgd s x t ho W0.heap.size e z bytes ht hi hzs v n xs hs (hown.alloc _) ⟨wr.heap.size, 0, none⟩ 1 u hx (by simp [go_sem]) h1 hn h63 (by simp; omega) fun v' w' h2 h3 _ => h v' w' h2 ?_
  exact belowGrow (hb.alloc hsz _) h3 (ownLe (hown.alloc (.cells #[u] e')))

end Go.Proofs.YtfojfohfhomhbaaGreatDoor

namespace Go.Proofs.YtfojfohfhomhbaaGreatDoor
open Go.RowKit

theorem nb1 {b : Bool} (h : (!b) = true) : b = false := by simpa using h
theorem nb0 {b : Bool} (h : (!b) = false) : b = true := by simpa using h
theorem retB {a b : Bool} (h : a = b) : Ending.returned (.bool a) = .returned (.bool b) := by rw [h]
theorem retI {k : IntKind} {a b : Int} (h : a = b) : Ending.returned (.int k a) = .returned (.int k b) := by rw [h]
theorem retS {a b : ByteArray} (h : a = b) : Ending.returned (.string a) = .returned (.string b) := by rw [h]

def letN (n : Int) : Bool := decide ((97 ≤ n ∧ n ≤ 122) ∨ (65 ≤ n ∧ n ≤ 90))
def digN (n : Int) : Bool := decide (48 ≤ n ∧ n ≤ 57)
def keyN (n : Int) : Bool := decide ((97 ≤ n ∧ n ≤ 122) ∨ (65 ≤ n ∧ n ≤ 90) ∨ (48 ≤ n ∧ n ≤ 57) ∨ n = 45)
theorem digN_of (c : UInt8) : digN (c.toNat : Int) = digitC c := by
  have := allU8 (fun c => digN (c.toNat : Int) == digitC c) (by decide +kernel) c
  simpa using this
theorem letN_of (c : UInt8) : letN (c.toNat : Int) = letterC c := by
  have := allU8 (fun c => letN (c.toNat : Int) == letterC c) (by decide +kernel) c
  simpa using this
theorem keyN_of (c : UInt8) : keyN (c.toNat : Int) = keyC c := by
  have := allU8 (fun c => keyN (c.toNat : Int) == keyC c) (by decide +kernel) c
  simpa using this

theorem key_any (n : Int) (w : World) : Calls Tryz.prog 182 #[.int .u8 n] w fun e w' => e = .returned (.bool (keyN n)) ∧ w = w' := by
  go_enter Tryz.func182, Tryz.ntmps182
  go_wp2
  all_goals (go_ret; refine ⟨retB ?_, rfl⟩; rw [Bool.eq_iff_iff, keyN, decide_eq_true_iff]; simp; try omega)
theorem aletter_any (n : Int) (w : World) : Calls Tryz.prog 202 #[.int .u8 n] w fun e w' => e = .returned (.bool (letN n)) ∧ w = w' := by
  go_enter Tryz.func202, Tryz.ntmps202
  go_wp2
  all_goals (go_ret; refine ⟨retB ?_, rfl⟩; rw [Bool.eq_iff_iff, letN, decide_eq_true_iff]; simp; try omega)
theorem adigit_any (n : Int) (w : World) : Calls Tryz.prog 204 #[.int .u8 n] w fun e w' => e = .returned (.bool (digN n)) ∧ w = w' := by
  go_enter Tryz.func204, Tryz.ntmps204
  go_wp2
  all_goals (go_ret; refine ⟨retB ?_, rfl⟩; rw [Bool.eq_iff_iff, digN, decide_eq_true_iff]; simp; try omega)
theorem akey_any (n : Int) (w : World) : Calls Tryz.prog 203 #[.int .u8 n] w fun e w' => e = .returned (.bool (keyN n)) ∧ w = w' := by
  go_enter Tryz.func203, Tryz.ntmps203
  go_wp2_with (first
    | (go_at_call 202; refine (aletter_any _ _).mono ?_; rintro e w' ⟨rfl, rfl⟩)
    | (go_at_call 204; refine (adigit_any _ _).mono ?_; rintro e w' ⟨rfl, rfl⟩))
  all_goals (go_ret; refine ⟨retB ?_, rfl⟩; simp only [letN, digN] at *; rw [Bool.eq_iff_iff, keyN, decide_eq_true_iff]; simp_all; try omega)

/-! ### bytes of a text, one by one -/
theorem byt_len (s : ByteArray) : (byt s).length = s.size := (size_byt s).symm
theorem byt_get (s : ByteArray) (k : Nat) (h : k < s.size) : (byt s)[k]'(by rw [byt_len]; exact h) = s[k] := rfl
theorem byt_snoc (s : ByteArray) (k : Nat) (h : k < s.size) : (byt s).take (k + 1) = (byt s).take k ++ [s[k]] := by
  rw [List.take_succ_eq_append_getElem (by rw [byt_len]; exact h)]; rfl
theorem byt_all (s : ByteArray) : (byt s).take s.size = byt s := List.take_of_length_le (by rw [byt_len]; exact Nat.le_refl _)
theorem toL (s : ByteArray) : s.toList = byt s := ByteArray.toList_eq s

set_option maxHeartbeats 400000 in
theorem keys_any (s : ByteArray) (w : World) (hs : s.size ≤ 1099511627776) : Calls Tryz.prog 143 #[.string s] w fun e w' => e = .returned (.bool (keysB (byt s))) ∧ w = w' := by
  go_enter Tryz.func143, Tryz.ntmps143
  go_wp2
  go_loop [3] (fun i => ∃ k : Nat, k ≤ s.size ∧ i = .int .i64 k ∧ Hid (((byt s).take k).all keyC = true)) (fun i => s.size - (intOf i).toNat)
  case atStart => exact ⟨0, Nat.zero_le _, rfl, hid (by simp)⟩
  case round =>
    obtain ⟨k, hk, rfl, H⟩ := hrel
    by_cases hlt : k < s.size
    · have hsn := hid (byt_snoc s k hlt)
      go_wp2_with (go_at_call 182; refine (key_any _ _).mono ?_; rintro e w' ⟨rfl, rfl⟩)
      · have hb : keyN (s[k].toNat : Int) = false := nb1 (by assumption)
        go_ret
        refine ⟨retB ?_, rfl⟩
        rw [keyN_of] at hb
        have h2 : ((byt s).take (k + 1)).all keyC = false := by rw [hsn.out]; simp [hb]
        have h3 : (byt s).all keyC = false := by
          rw [← List.take_append_drop (k + 1) (byt s), List.all_append, h2]; rfl
        simp [keysB, h3]
      · have hb : keyN (s[k].toNat : Int) = true := nb0 (by assumption)
        rw [keyN_of] at hb
        go_round
        case rel => exact ⟨k + 1, by omega, by go_num, hid (by rw [hsn.out, List.all_append, H.out]; simp [hb])⟩
        case measure => simp [intOf]; omega
    · have hk' : k = s.size := by omega
      have h1 : (byt s).all keyC = true := by have := H.out; rw [hk', byt_all] at this; exact this
      have H1 := hid h1
      clear H h1 hk'
      go_wp2
      go_ret
      refine ⟨retB ?_, rfl⟩
      rw [keysB, H1.out, toL]; simp

/-! ### numbers and types, as the reference has them -/
theorem take_succ_all {p : UInt8 → Bool} {s : ByteArray} {k : Nat} (h : k < s.size) (h0 : ((byt s).take k).all p = true) (h1 : p s[k] = true) : ((byt s).take (k + 1)).all p = true := by
  rw [byt_snoc s k h, List.all_append, h0]; simp [h1]
theorem take_succ_not {p : UInt8 → Bool} {s : ByteArray} {k : Nat} (h : k < s.size) (h1 : p s[k] = false) : (byt s).all p = false := by
  rw [← List.take_append_drop (k + 1) (byt s), List.all_append, byt_snoc s k h]; simp [h1]
theorem all_done {p : UInt8 → Bool} {s : ByteArray} {k : Nat} (hk : k ≤ s.size) (h : ¬ k < s.size) (h0 : ((byt s).take k).all p = true) : (byt s).all p = true := by
  have : k = s.size := by omega
  rw [this, byt_all] at h0; exact h0
theorem byt_pos {s : ByteArray} (h : ¬ s.toList = []) : 0 < s.size := by
  rw [toL] at h; rw [← byt_len]; exact List.length_pos_iff.2 h
theorem head_byt {s : ByteArray} (h : 0 < s.size) : (byt s).head? = some s[0] := by
  have h2 : 0 < (byt s).length := by rw [byt_len]; exact h
  rw [List.head?_eq_getElem?, List.getElem?_eq_getElem h2]; rfl

set_option maxHeartbeats 800000 in
theorem number_any (s : ByteArray) (w : World) (hs : s.size ≤ 1099511627776) : Calls Tryz.prog 183 #[.string s] w fun e w' => e = .returned (.bool (numB (byt s))) ∧ w = w' := by
  go_enter Tryz.func183, Tryz.ntmps183
  go_wp2
  go_loop [3] (fun i => ∃ k : Nat, k ≤ s.size ∧ i = .int .i64 k ∧ Hid (((byt s).take k).all digitC = true)) (fun i => s.size - (intOf i).toNat)
  case atStart => exact ⟨0, Nat.zero_le _, rfl, hid (by simp)⟩
  case round =>
    obtain ⟨k, hk, rfl, H⟩ := hrel
    by_cases hlt : k < s.size
    · have no : digN (s[k].toNat : Int) = false → Hid (numB (byt s) = false) := fun h => hid (by
        rw [digN_of] at h; simp [numB, take_succ_not hlt h])
      have ye : digN (s[k].toNat : Int) = true → Hid (((byt s).take (k + 1)).all digitC = true) := fun h => hid (by
        rw [digN_of] at h; exact take_succ_all hlt H.out h)
      go_wp2
      · go_ret
        exact ⟨retB ((no (by simp [digN]; omega)).out).symm, rfl⟩
      · go_round
        case rel => exact ⟨k + 1, by omega, by go_num, ye (by simp [digN]; omega)⟩
        case measure => simp [intOf]; omega
      · go_ret
        exact ⟨retB ((no (by simp [digN]; omega)).out).symm, rfl⟩
    · have h1 := hid (all_done hk hlt H.out)
      clear H
      by_cases h48 : s.toList = [48]
      · have e1 := hid h48
        go_wp2
        go_ret
        refine ⟨retB ?_, rfl⟩
        have := e1.out; rw [toL] at this; rw [this]; rfl
      · have h48' : (s.toList == [48]) = false := by simpa using h48
        by_cases h0 : s.toList = []
        · have e1 := hid h0
          go_wp2
          go_ret
          refine ⟨retB ?_, rfl⟩
          have := e1.out; rw [toL] at this; rw [this]; rfl
        · have hp := byt_pos h0
          have e1 := hid (head_byt hp)
          have e2 := hid h0
          have e3 := hid h48'
          go_wp2
          go_ret
          refine ⟨retB ?_, rfl⟩
          have q0 : byt s ≠ [] := by rw [← toL]; exact e2.out
          have q1 : (byt s == [48]) = false := by rw [← toL]; exact e3.out
          have q2 : ((s[0].toNat : Int) != 48) = !(s[0] == 48) := by
            have := allU8 (fun c => ((c.toNat : Int) != 48) == !(c == 48)) (by decide +kernel) s[0]
            simpa using this
          simp [numB, h1.out, toL, q1, e1.out, q2]
end Go.Proofs.YtfojfohfhomhbaaGreatDoor

namespace Go.Proofs.YtfojfohfhomhbaaGreatDoor
open Go.RowKit

def sv (l : List ByteArray) : List Value := l.map Value.string
@[simp] theorem sv_length (l : List ByteArray) : (sv l).length = l.length := by simp [sv]
theorem sv_snoc (l : List ByteArray) (s : ByteArray) : sv (l ++ [s]) = sv l ++ [.string s] := by simp [sv]
theorem sv_get (l : List ByteArray) (k : Nat) (h : k < l.length) : (sv l)[k]'(by simpa using h) = .string l[k] := by simp [sv]
def pieces (c : UInt8) (s : ByteArray) : List ByteArray := ((spl c (byt s)).1 :: (spl c (byt s)).2).map bs
theorem pieces_length (c : UInt8) (s : ByteArray) : (pieces c s).length = (spl c (byt s)).2.length + 1 := by simp [pieces]
theorem spl_le (c : UInt8) : ∀ l : List UInt8, (spl c l).2.length ≤ l.length ∧ (spl c l).1.length ≤ l.length
  | [] => by simp [spl]
  | x :: l => by
    have := spl_le c l
    by_cases h : x = c <;> simp [spl, h] <;> omega
theorem spl_mem (c : UInt8) : ∀ (l : List UInt8), ∀ p ∈ (spl c l).2, p.length ≤ l.length
  | [], p, hp => by simp [spl] at hp
  | x :: l, p, hp => by
    have h0 := spl_le c l
    by_cases h : x = c
    · simp [spl, h] at hp
      rcases hp with rfl | hp
      · simp; omega
      · have := spl_mem c l p hp; simp; omega
    · simp [spl, h] at hp
      have := spl_mem c l p hp; simp; omega
theorem pieces_size {c : UInt8} {s p : ByteArray} (h : p ∈ pieces c s) : p.size ≤ s.size := by
  simp only [pieces, List.map_cons, List.mem_cons, List.mem_map] at h
  rcases h with rfl | ⟨q, hq, rfl⟩
  · rw [size_bs, ← byt_len]; exact (spl_le c _).2
  · rw [size_bs, ← byt_len]; exact spl_mem c _ q hq
theorem byt_extract (s : ByteArray) (a b : Nat) : byt (s.extract a b) = ((byt s).take b).drop a := by
  show (s.extract a b).data.toList = _
  rw [Lib.extract_data, List.drop_take]; rfl
theorem info_str : (Tryz.prog.info? 9).map (fun i => (i.zero, i.size, i.bytes)) = some (some (.string ByteArray.empty), 1, 16) := by kernel_rfl
theorem info_u8 : (Tryz.prog.info? 5).map (fun i => (i.zero, i.size, i.bytes)) = some (some (.int .u8 0), 1, 1) := by kernel_rfl

/-- What 'parts' has gathered when k bytes are read. -/
def PartsAt (c : UInt8) (s : ByteArray) (k lo : Nat) (done : List ByteArray) : Prop :=
  ((byt s).take k).foldl (spF c) ([], []) = (done.map byt, ((byt s).take k).drop lo) ∧ lo ≤ k ∧ done.length ≤ k
theorem PartsAt.zero (c : UInt8) (s : ByteArray) : PartsAt c s 0 0 [] := ⟨by simp, by omega, by simp⟩
theorem PartsAt.hit {c : UInt8} {s : ByteArray} {k lo : Nat} {done : List ByteArray} (h : PartsAt c s k lo done) (hk : k < s.size) (hc : s[k] = c) :
    PartsAt c s (k + 1) (k + 1) (done ++ [s.extract lo k]) := by
  obtain ⟨h1, h2, h3⟩ := h
  refine ⟨?_, by omega, by simp; omega⟩
  rw [byt_snoc s k hk, List.foldl_append, h1]
  have hl : ((byt s).take k).length = k := by rw [List.length_take, byt_len]; omega
  simp only [List.foldl_cons, List.foldl_nil, spF, hc, if_true, List.map_append, List.map_cons, List.map_nil, byt_extract, Prod.mk.injEq, true_and]
  rw [List.drop_of_length_le]; simp [hl]
theorem PartsAt.miss {c : UInt8} {s : ByteArray} {k lo : Nat} {done : List ByteArray} (h : PartsAt c s k lo done) (hk : k < s.size) (hc : ¬ s[k] = c) :
    PartsAt c s (k + 1) lo done := by
  obtain ⟨h1, h2, h3⟩ := h
  refine ⟨?_, by omega, by omega⟩
  rw [byt_snoc s k hk, List.foldl_append, h1]
  have hl : ((byt s).take k).length = k := by rw [List.length_take, byt_len]; omega
  simp only [List.foldl_cons, List.foldl_nil, spF, hc, if_false, Prod.mk.injEq, true_and]
  rw [List.drop_append_of_le_length (by omega)]
theorem PartsAt.done_ {c : UInt8} {s : ByteArray} {lo : Nat} {done : List ByteArray} (h : PartsAt c s s.size lo done) : done ++ [s.extract lo s.size] = pieces c s := by
  obtain ⟨h1, _, _⟩ := h
  have := foldl_spF c (byt s) [] []
  rw [byt_all] at h1
  rw [h1] at this
  have h2 : (done ++ [s.extract lo s.size]).map byt = (pieces c s).map byt := by
    simp only [List.map_append, List.map_cons, List.map_nil, byt_extract, byt_all, pieces, List.map_map]
    simp only [List.nil_append] at this
    rw [this]
    simp [Function.comp_def]
  have := congrArg (List.map bs) h2
  simpa [List.map_map, Function.comp_def] using this

set_option maxHeartbeats 1600000 in
theorem parts_any (c : UInt8) (n : Int) (hn : n = c.toNat) (s : ByteArray) (w : World) (hs : s.size ≤ 1099511627776) :
    Calls Tryz.prog 92 #[.string s, .int .u8 n] w fun e w' => ∃ A cp, e = .returned (.slice A (pieces c s).length cp) ∧ (pieces c s).length ≤ cp ∧
      Rd w' w'.heap.size 1 A (pieces c s).length (sv (pieces c s)) ∧ Below w.heap.size w w' := by
  have Hn := hid hn; clear hn
  go_enter Tryz.func92, Tryz.ntmps92
  go_wp2
  go_loopw [5, 6, 7] (fun v lo i wr => ∃ (k l : Nat) (done : List ByteArray), k ≤ s.size ∧ i = .int .i64 k ∧ lo = .int .i64 l ∧ l ≤ k ∧ Hid (PartsAt c s k l done) ∧
      wr.ownsRow w.heap.size 9 1 v done.length (sv done) ∧ Below w.heap.size w wr) (fun _ _ i _ => s.size - (intOf i).toNat)
  case atStart => exact ⟨0, 0, [], Nat.zero_le _, rfl, rfl, Nat.le_refl _, hid (PartsAt.zero c s), World.ownsRow_nil _ _ _ _, Below.refl _ _⟩
  case round =>
    obtain ⟨k, l, done, hk, rfl, rfl, hlk, H, hown, hb⟩ := hrel
    have hdl := H.out.2.2
    have hsz := hb.size
    by_cases hlt : k < s.size
    · by_cases hc : s[k] = c
      · have hb1 : ((s[k].toNat : Int) == n) = true := by rw [Hn.out, hc]; simp
        have Hc := hid hc; clear hc
        go_wp2_with (at_builtin; refine app1 rfl (.tmp 19) (.tmp 24) 23 rfl 9 _ 16 Tryz.underlying23 info_str rfl _ _ _ rfl hown rfl rfl hb (by omega) (by omega) ?_; intro v1 w1 hown1 hb2)
        rw [← sv_snoc] at hown1
        clear hown hb
        go_wp2
        go_roundw
        case rel => exact ⟨k + 1, k + 1, done ++ [s.extract l k], by omega, by go_num, by go_num, Nat.le_refl _, hid (H.out.hit hlt Hc.out), by simpa using hown1, hb2⟩
        case measure => simp [intOf]; omega
      · have hb1 : ((s[k].toNat : Int) == n) = false := by
          rw [Hn.out]; simp; intro h; exact hc (UInt8.toNat_inj.1 (by omega))
        have Hc := hid hc; clear hc
        go_wp2
        go_roundw
        case rel => exact ⟨k + 1, l, done, by omega, by go_num, rfl, by omega, hid (H.out.miss hlt Hc.out), hown, hb⟩
        case measure => simp [intOf]; omega
    · have hk2 : k = s.size := by omega
      subst hk2
      go_wp2_with (at_builtin; refine app1 rfl (.tmp 28) (.tmp 32) 23 rfl 9 _ 16 Tryz.underlying23 info_str rfl _ _ _ rfl hown rfl rfl hb (by omega) (by omega) ?_; intro v1 w1 hown1 hb2)
      rw [← sv_snoc, H.out.done_] at hown1
      have hln : done.length + 1 = (pieces c s).length := by rw [← H.out.done_]; simp
      rw [hln] at hown1
      obtain ⟨A, cp, rfl, hcp⟩ := ownForm hown1
      clear hown hb
      go_ret
      exact ⟨A, cp, rfl, hcp, Rd.ofOwn hown1, hb2⟩

end Go.Proofs.YtfojfohfhomhbaaGreatDoor
